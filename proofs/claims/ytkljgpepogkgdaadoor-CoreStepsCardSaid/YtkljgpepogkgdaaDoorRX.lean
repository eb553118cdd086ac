/-
  Merged: RB RC.
-/
import Derived.Test.YtkljgpepogkgdaaDoorRA
set_option linter.unusedVariables false
set_option linter.unusedSimpArgs false
namespace Go.Proofs.YtkljgpepogkgdaaDoor
open Go Go.Vex
set_option maxRecDepth 20000
set_option maxHeartbeats 4000000

theorem apart_1 {w : Int} (h0 : 0 ≤ w) (h1 : w < 4294967296) (hk : w / 67108864 = 1) (hv : w % 16384 = 0) (x22 x18 x14 l18 l22 l14 l26 : Int) (hx22 : w / 4194304 % 16 = x22) (hx18 : w / 262144 % 16 = x18) (hx14 : w / 16384 % 16 = x14) (hl18 : w % 262144 = l18) (hl22 : w % 4194304 = l22) (hl14 : w % 16384 = l14) (hl26 : w % 67108864 = l26) : Spec1 kit 32 [.i .u32 (.ex w)] [] false (.agg [.i .i64 (.lit 0), .i .i64 (.ex x22), .i .i64 (.ex x18), .i .i64 (.ex x14), .i .i64 (.lit 0)]) [] [] := by
  refine Spec1.mk2 rfl fun F => ?_
  refine into I32ok 6 ?_
  conv => cbv
  refine OkCall.by_spec (field_26_6 h0 h1 (v := 1) (by omega)) [] (by decide) (by cbv) trivial ?_
  conv => cbv
  refine Obs.int (.lit 0) (by show (0 : Int) = subI .i64 1 1; rw [subI_eq]; rfl) ?_
  conv => cbv
  refine OkCall.by_spec (field_22_4 h0 h1 hx22) [] (by decide) (by cbv) trivial ?_
  conv => cbv
  refine OkCall.by_spec (field_18_4 h0 h1 hx18) [] (by decide) (by cbv) trivial ?_
  conv => cbv
  refine OkCall.by_spec (field_14_4 h0 h1 hx14) [] (by decide) (by cbv) trivial ?_
  conv => cbv
  refine OkCall.by_spec (field_0_18 h0 h1 (v := l18) (by omega)) [] (by decide) (by cbv) trivial ?_
  conv => cbv
  refine OkCall.by_spec (field_0_22 h0 h1 (v := l22) (by omega)) [] (by decide) (by cbv) trivial ?_
  conv => cbv
  refine OkCall.by_spec (field_0_14 h0 h1 (v := l14) (by omega)) [] (by decide) (by cbv) trivial ?_
  conv => cbv
  refine Br.no (by simp only [leafs, Bool.not_eq_false', Bool.not_eq_true', beq_iff_eq, beq_eq_false_iff_ne, ne_eq]; omega) ?_
  conv => cbv
  exact LeOut.two (LeOut.mk' [0] (by decide) rfl (by decide) (by cbv) (by cbv))
theorem apart_1_bad {w : Int} (h0 : 0 ≤ w) (h1 : w < 4294967296) (hk : w / 67108864 = 1) (hv : w % 16384 ≠ 0) (x22 x18 x14 l18 l22 l14 l26 : Int) (hx22 : w / 4194304 % 16 = x22) (hx18 : w / 262144 % 16 = x18) (hx14 : w / 16384 % 16 = x14) (hl18 : w % 262144 = l18) (hl22 : w % 4194304 = l22) (hl14 : w % 16384 = l14) (hl26 : w % 67108864 = l26) : Spec1 kit 32 [.i .u32 (.ex w)] [] false (.agg [.i .i64 (.lit (-1)), .i .i64 (.lit 0), .i .i64 (.lit 0), .i .i64 (.lit 0), .i .i64 (.lit 0)]) [] [] := by
  refine Spec1.mk2 rfl fun F => ?_
  refine into I32ok 6 ?_
  conv => cbv
  refine OkCall.by_spec (field_26_6 h0 h1 (v := 1) (by omega)) [] (by decide) (by cbv) trivial ?_
  conv => cbv
  refine Obs.int (.lit 0) (by show (0 : Int) = subI .i64 1 1; rw [subI_eq]; rfl) ?_
  conv => cbv
  refine OkCall.by_spec (field_22_4 h0 h1 hx22) [] (by decide) (by cbv) trivial ?_
  conv => cbv
  refine OkCall.by_spec (field_18_4 h0 h1 hx18) [] (by decide) (by cbv) trivial ?_
  conv => cbv
  refine OkCall.by_spec (field_14_4 h0 h1 hx14) [] (by decide) (by cbv) trivial ?_
  conv => cbv
  refine OkCall.by_spec (field_0_18 h0 h1 (v := l18) (by omega)) [] (by decide) (by cbv) trivial ?_
  conv => cbv
  refine OkCall.by_spec (field_0_22 h0 h1 (v := l22) (by omega)) [] (by decide) (by cbv) trivial ?_
  conv => cbv
  refine OkCall.by_spec (field_0_14 h0 h1 (v := l14) (by omega)) [] (by decide) (by cbv) trivial ?_
  conv => cbv
  refine Br.yes (by simp only [leafs, Bool.not_eq_false', Bool.not_eq_true', beq_iff_eq, beq_eq_false_iff_ne, ne_eq]; omega) ?_
  conv => cbv
  exact LeOut.two (LeOut.mk' [0] (by decide) rfl (by decide) (by cbv) (by cbv))
theorem apart_2 {w : Int} (h0 : 0 ≤ w) (h1 : w < 4294967296) (hk : w / 67108864 = 2) (hv : w % 16384 = 0) (x22 x18 x14 l18 l22 l14 l26 : Int) (hx22 : w / 4194304 % 16 = x22) (hx18 : w / 262144 % 16 = x18) (hx14 : w / 16384 % 16 = x14) (hl18 : w % 262144 = l18) (hl22 : w % 4194304 = l22) (hl14 : w % 16384 = l14) (hl26 : w % 67108864 = l26) : Spec1 kit 32 [.i .u32 (.ex w)] [] false (.agg [.i .i64 (.lit 1), .i .i64 (.ex x22), .i .i64 (.ex x18), .i .i64 (.ex x14), .i .i64 (.lit 0)]) [] [] := by
  refine Spec1.mk2 rfl fun F => ?_
  refine into I32ok 6 ?_
  conv => cbv
  refine OkCall.by_spec (field_26_6 h0 h1 (v := 2) (by omega)) [] (by decide) (by cbv) trivial ?_
  conv => cbv
  refine Obs.int (.lit 1) (by show (1 : Int) = subI .i64 2 1; rw [subI_eq]; rfl) ?_
  conv => cbv
  refine OkCall.by_spec (field_22_4 h0 h1 hx22) [] (by decide) (by cbv) trivial ?_
  conv => cbv
  refine OkCall.by_spec (field_18_4 h0 h1 hx18) [] (by decide) (by cbv) trivial ?_
  conv => cbv
  refine OkCall.by_spec (field_14_4 h0 h1 hx14) [] (by decide) (by cbv) trivial ?_
  conv => cbv
  refine OkCall.by_spec (field_0_18 h0 h1 (v := l18) (by omega)) [] (by decide) (by cbv) trivial ?_
  conv => cbv
  refine OkCall.by_spec (field_0_22 h0 h1 (v := l22) (by omega)) [] (by decide) (by cbv) trivial ?_
  conv => cbv
  refine OkCall.by_spec (field_0_14 h0 h1 (v := l14) (by omega)) [] (by decide) (by cbv) trivial ?_
  conv => cbv
  refine Br.no (by simp only [leafs, Bool.not_eq_false', Bool.not_eq_true', beq_iff_eq, beq_eq_false_iff_ne, ne_eq]; omega) ?_
  conv => cbv
  exact LeOut.two (LeOut.mk' [0] (by decide) rfl (by decide) (by cbv) (by cbv))
theorem apart_2_bad {w : Int} (h0 : 0 ≤ w) (h1 : w < 4294967296) (hk : w / 67108864 = 2) (hv : w % 16384 ≠ 0) (x22 x18 x14 l18 l22 l14 l26 : Int) (hx22 : w / 4194304 % 16 = x22) (hx18 : w / 262144 % 16 = x18) (hx14 : w / 16384 % 16 = x14) (hl18 : w % 262144 = l18) (hl22 : w % 4194304 = l22) (hl14 : w % 16384 = l14) (hl26 : w % 67108864 = l26) : Spec1 kit 32 [.i .u32 (.ex w)] [] false (.agg [.i .i64 (.lit (-1)), .i .i64 (.lit 0), .i .i64 (.lit 0), .i .i64 (.lit 0), .i .i64 (.lit 0)]) [] [] := by
  refine Spec1.mk2 rfl fun F => ?_
  refine into I32ok 6 ?_
  conv => cbv
  refine OkCall.by_spec (field_26_6 h0 h1 (v := 2) (by omega)) [] (by decide) (by cbv) trivial ?_
  conv => cbv
  refine Obs.int (.lit 1) (by show (1 : Int) = subI .i64 2 1; rw [subI_eq]; rfl) ?_
  conv => cbv
  refine OkCall.by_spec (field_22_4 h0 h1 hx22) [] (by decide) (by cbv) trivial ?_
  conv => cbv
  refine OkCall.by_spec (field_18_4 h0 h1 hx18) [] (by decide) (by cbv) trivial ?_
  conv => cbv
  refine OkCall.by_spec (field_14_4 h0 h1 hx14) [] (by decide) (by cbv) trivial ?_
  conv => cbv
  refine OkCall.by_spec (field_0_18 h0 h1 (v := l18) (by omega)) [] (by decide) (by cbv) trivial ?_
  conv => cbv
  refine OkCall.by_spec (field_0_22 h0 h1 (v := l22) (by omega)) [] (by decide) (by cbv) trivial ?_
  conv => cbv
  refine OkCall.by_spec (field_0_14 h0 h1 (v := l14) (by omega)) [] (by decide) (by cbv) trivial ?_
  conv => cbv
  refine Br.yes (by simp only [leafs, Bool.not_eq_false', Bool.not_eq_true', beq_iff_eq, beq_eq_false_iff_ne, ne_eq]; omega) ?_
  conv => cbv
  exact LeOut.two (LeOut.mk' [0] (by decide) rfl (by decide) (by cbv) (by cbv))
theorem apart_3 {w : Int} (h0 : 0 ≤ w) (h1 : w < 4294967296) (hk : w / 67108864 = 3) (hv : w % 16384 = 0) (x22 x18 x14 l18 l22 l14 l26 : Int) (hx22 : w / 4194304 % 16 = x22) (hx18 : w / 262144 % 16 = x18) (hx14 : w / 16384 % 16 = x14) (hl18 : w % 262144 = l18) (hl22 : w % 4194304 = l22) (hl14 : w % 16384 = l14) (hl26 : w % 67108864 = l26) : Spec1 kit 32 [.i .u32 (.ex w)] [] false (.agg [.i .i64 (.lit 2), .i .i64 (.ex x22), .i .i64 (.ex x18), .i .i64 (.ex x14), .i .i64 (.lit 0)]) [] [] := by
  refine Spec1.mk2 rfl fun F => ?_
  refine into I32ok 6 ?_
  conv => cbv
  refine OkCall.by_spec (field_26_6 h0 h1 (v := 3) (by omega)) [] (by decide) (by cbv) trivial ?_
  conv => cbv
  refine Obs.int (.lit 2) (by show (2 : Int) = subI .i64 3 1; rw [subI_eq]; rfl) ?_
  conv => cbv
  refine OkCall.by_spec (field_22_4 h0 h1 hx22) [] (by decide) (by cbv) trivial ?_
  conv => cbv
  refine OkCall.by_spec (field_18_4 h0 h1 hx18) [] (by decide) (by cbv) trivial ?_
  conv => cbv
  refine OkCall.by_spec (field_14_4 h0 h1 hx14) [] (by decide) (by cbv) trivial ?_
  conv => cbv
  refine OkCall.by_spec (field_0_18 h0 h1 (v := l18) (by omega)) [] (by decide) (by cbv) trivial ?_
  conv => cbv
  refine OkCall.by_spec (field_0_22 h0 h1 (v := l22) (by omega)) [] (by decide) (by cbv) trivial ?_
  conv => cbv
  refine OkCall.by_spec (field_0_14 h0 h1 (v := l14) (by omega)) [] (by decide) (by cbv) trivial ?_
  conv => cbv
  refine Br.no (by simp only [leafs, Bool.not_eq_false', Bool.not_eq_true', beq_iff_eq, beq_eq_false_iff_ne, ne_eq]; omega) ?_
  conv => cbv
  exact LeOut.two (LeOut.mk' [0] (by decide) rfl (by decide) (by cbv) (by cbv))
theorem apart_3_bad {w : Int} (h0 : 0 ≤ w) (h1 : w < 4294967296) (hk : w / 67108864 = 3) (hv : w % 16384 ≠ 0) (x22 x18 x14 l18 l22 l14 l26 : Int) (hx22 : w / 4194304 % 16 = x22) (hx18 : w / 262144 % 16 = x18) (hx14 : w / 16384 % 16 = x14) (hl18 : w % 262144 = l18) (hl22 : w % 4194304 = l22) (hl14 : w % 16384 = l14) (hl26 : w % 67108864 = l26) : Spec1 kit 32 [.i .u32 (.ex w)] [] false (.agg [.i .i64 (.lit (-1)), .i .i64 (.lit 0), .i .i64 (.lit 0), .i .i64 (.lit 0), .i .i64 (.lit 0)]) [] [] := by
  refine Spec1.mk2 rfl fun F => ?_
  refine into I32ok 6 ?_
  conv => cbv
  refine OkCall.by_spec (field_26_6 h0 h1 (v := 3) (by omega)) [] (by decide) (by cbv) trivial ?_
  conv => cbv
  refine Obs.int (.lit 2) (by show (2 : Int) = subI .i64 3 1; rw [subI_eq]; rfl) ?_
  conv => cbv
  refine OkCall.by_spec (field_22_4 h0 h1 hx22) [] (by decide) (by cbv) trivial ?_
  conv => cbv
  refine OkCall.by_spec (field_18_4 h0 h1 hx18) [] (by decide) (by cbv) trivial ?_
  conv => cbv
  refine OkCall.by_spec (field_14_4 h0 h1 hx14) [] (by decide) (by cbv) trivial ?_
  conv => cbv
  refine OkCall.by_spec (field_0_18 h0 h1 (v := l18) (by omega)) [] (by decide) (by cbv) trivial ?_
  conv => cbv
  refine OkCall.by_spec (field_0_22 h0 h1 (v := l22) (by omega)) [] (by decide) (by cbv) trivial ?_
  conv => cbv
  refine OkCall.by_spec (field_0_14 h0 h1 (v := l14) (by omega)) [] (by decide) (by cbv) trivial ?_
  conv => cbv
  refine Br.yes (by simp only [leafs, Bool.not_eq_false', Bool.not_eq_true', beq_iff_eq, beq_eq_false_iff_ne, ne_eq]; omega) ?_
  conv => cbv
  exact LeOut.two (LeOut.mk' [0] (by decide) rfl (by decide) (by cbv) (by cbv))
theorem apart_4 {w : Int} (h0 : 0 ≤ w) (h1 : w < 4294967296) (hk : w / 67108864 = 4) (hv : w % 16384 = 0) (x22 x18 x14 l18 l22 l14 l26 : Int) (hx22 : w / 4194304 % 16 = x22) (hx18 : w / 262144 % 16 = x18) (hx14 : w / 16384 % 16 = x14) (hl18 : w % 262144 = l18) (hl22 : w % 4194304 = l22) (hl14 : w % 16384 = l14) (hl26 : w % 67108864 = l26) : Spec1 kit 32 [.i .u32 (.ex w)] [] false (.agg [.i .i64 (.lit 3), .i .i64 (.ex x22), .i .i64 (.ex x18), .i .i64 (.ex x14), .i .i64 (.lit 0)]) [] [] := by
  refine Spec1.mk2 rfl fun F => ?_
  refine into I32ok 6 ?_
  conv => cbv
  refine OkCall.by_spec (field_26_6 h0 h1 (v := 4) (by omega)) [] (by decide) (by cbv) trivial ?_
  conv => cbv
  refine Obs.int (.lit 3) (by show (3 : Int) = subI .i64 4 1; rw [subI_eq]; rfl) ?_
  conv => cbv
  refine OkCall.by_spec (field_22_4 h0 h1 hx22) [] (by decide) (by cbv) trivial ?_
  conv => cbv
  refine OkCall.by_spec (field_18_4 h0 h1 hx18) [] (by decide) (by cbv) trivial ?_
  conv => cbv
  refine OkCall.by_spec (field_14_4 h0 h1 hx14) [] (by decide) (by cbv) trivial ?_
  conv => cbv
  refine OkCall.by_spec (field_0_18 h0 h1 (v := l18) (by omega)) [] (by decide) (by cbv) trivial ?_
  conv => cbv
  refine OkCall.by_spec (field_0_22 h0 h1 (v := l22) (by omega)) [] (by decide) (by cbv) trivial ?_
  conv => cbv
  refine OkCall.by_spec (field_0_14 h0 h1 (v := l14) (by omega)) [] (by decide) (by cbv) trivial ?_
  conv => cbv
  refine Br.no (by simp only [leafs, Bool.not_eq_false', Bool.not_eq_true', beq_iff_eq, beq_eq_false_iff_ne, ne_eq]; omega) ?_
  conv => cbv
  exact LeOut.two (LeOut.mk' [0] (by decide) rfl (by decide) (by cbv) (by cbv))
theorem apart_4_bad {w : Int} (h0 : 0 ≤ w) (h1 : w < 4294967296) (hk : w / 67108864 = 4) (hv : w % 16384 ≠ 0) (x22 x18 x14 l18 l22 l14 l26 : Int) (hx22 : w / 4194304 % 16 = x22) (hx18 : w / 262144 % 16 = x18) (hx14 : w / 16384 % 16 = x14) (hl18 : w % 262144 = l18) (hl22 : w % 4194304 = l22) (hl14 : w % 16384 = l14) (hl26 : w % 67108864 = l26) : Spec1 kit 32 [.i .u32 (.ex w)] [] false (.agg [.i .i64 (.lit (-1)), .i .i64 (.lit 0), .i .i64 (.lit 0), .i .i64 (.lit 0), .i .i64 (.lit 0)]) [] [] := by
  refine Spec1.mk2 rfl fun F => ?_
  refine into I32ok 6 ?_
  conv => cbv
  refine OkCall.by_spec (field_26_6 h0 h1 (v := 4) (by omega)) [] (by decide) (by cbv) trivial ?_
  conv => cbv
  refine Obs.int (.lit 3) (by show (3 : Int) = subI .i64 4 1; rw [subI_eq]; rfl) ?_
  conv => cbv
  refine OkCall.by_spec (field_22_4 h0 h1 hx22) [] (by decide) (by cbv) trivial ?_
  conv => cbv
  refine OkCall.by_spec (field_18_4 h0 h1 hx18) [] (by decide) (by cbv) trivial ?_
  conv => cbv
  refine OkCall.by_spec (field_14_4 h0 h1 hx14) [] (by decide) (by cbv) trivial ?_
  conv => cbv
  refine OkCall.by_spec (field_0_18 h0 h1 (v := l18) (by omega)) [] (by decide) (by cbv) trivial ?_
  conv => cbv
  refine OkCall.by_spec (field_0_22 h0 h1 (v := l22) (by omega)) [] (by decide) (by cbv) trivial ?_
  conv => cbv
  refine OkCall.by_spec (field_0_14 h0 h1 (v := l14) (by omega)) [] (by decide) (by cbv) trivial ?_
  conv => cbv
  refine Br.yes (by simp only [leafs, Bool.not_eq_false', Bool.not_eq_true', beq_iff_eq, beq_eq_false_iff_ne, ne_eq]; omega) ?_
  conv => cbv
  exact LeOut.two (LeOut.mk' [0] (by decide) rfl (by decide) (by cbv) (by cbv))
theorem apart_5 {w : Int} (h0 : 0 ≤ w) (h1 : w < 4294967296) (hk : w / 67108864 = 5) (hv : w % 16384 = 0) (x22 x18 x14 l18 l22 l14 l26 : Int) (hx22 : w / 4194304 % 16 = x22) (hx18 : w / 262144 % 16 = x18) (hx14 : w / 16384 % 16 = x14) (hl18 : w % 262144 = l18) (hl22 : w % 4194304 = l22) (hl14 : w % 16384 = l14) (hl26 : w % 67108864 = l26) : Spec1 kit 32 [.i .u32 (.ex w)] [] false (.agg [.i .i64 (.lit 4), .i .i64 (.ex x22), .i .i64 (.ex x18), .i .i64 (.ex x14), .i .i64 (.lit 0)]) [] [] := by
  refine Spec1.mk2 rfl fun F => ?_
  refine into I32ok 6 ?_
  conv => cbv
  refine OkCall.by_spec (field_26_6 h0 h1 (v := 5) (by omega)) [] (by decide) (by cbv) trivial ?_
  conv => cbv
  refine Obs.int (.lit 4) (by show (4 : Int) = subI .i64 5 1; rw [subI_eq]; rfl) ?_
  conv => cbv
  refine OkCall.by_spec (field_22_4 h0 h1 hx22) [] (by decide) (by cbv) trivial ?_
  conv => cbv
  refine OkCall.by_spec (field_18_4 h0 h1 hx18) [] (by decide) (by cbv) trivial ?_
  conv => cbv
  refine OkCall.by_spec (field_14_4 h0 h1 hx14) [] (by decide) (by cbv) trivial ?_
  conv => cbv
  refine OkCall.by_spec (field_0_18 h0 h1 (v := l18) (by omega)) [] (by decide) (by cbv) trivial ?_
  conv => cbv
  refine OkCall.by_spec (field_0_22 h0 h1 (v := l22) (by omega)) [] (by decide) (by cbv) trivial ?_
  conv => cbv
  refine OkCall.by_spec (field_0_14 h0 h1 (v := l14) (by omega)) [] (by decide) (by cbv) trivial ?_
  conv => cbv
  refine Br.no (by simp only [leafs, Bool.not_eq_false', Bool.not_eq_true', beq_iff_eq, beq_eq_false_iff_ne, ne_eq]; omega) ?_
  conv => cbv
  exact LeOut.two (LeOut.mk' [0] (by decide) rfl (by decide) (by cbv) (by cbv))
theorem apart_5_bad {w : Int} (h0 : 0 ≤ w) (h1 : w < 4294967296) (hk : w / 67108864 = 5) (hv : w % 16384 ≠ 0) (x22 x18 x14 l18 l22 l14 l26 : Int) (hx22 : w / 4194304 % 16 = x22) (hx18 : w / 262144 % 16 = x18) (hx14 : w / 16384 % 16 = x14) (hl18 : w % 262144 = l18) (hl22 : w % 4194304 = l22) (hl14 : w % 16384 = l14) (hl26 : w % 67108864 = l26) : Spec1 kit 32 [.i .u32 (.ex w)] [] false (.agg [.i .i64 (.lit (-1)), .i .i64 (.lit 0), .i .i64 (.lit 0), .i .i64 (.lit 0), .i .i64 (.lit 0)]) [] [] := by
  refine Spec1.mk2 rfl fun F => ?_
  refine into I32ok 6 ?_
  conv => cbv
  refine OkCall.by_spec (field_26_6 h0 h1 (v := 5) (by omega)) [] (by decide) (by cbv) trivial ?_
  conv => cbv
  refine Obs.int (.lit 4) (by show (4 : Int) = subI .i64 5 1; rw [subI_eq]; rfl) ?_
  conv => cbv
  refine OkCall.by_spec (field_22_4 h0 h1 hx22) [] (by decide) (by cbv) trivial ?_
  conv => cbv
  refine OkCall.by_spec (field_18_4 h0 h1 hx18) [] (by decide) (by cbv) trivial ?_
  conv => cbv
  refine OkCall.by_spec (field_14_4 h0 h1 hx14) [] (by decide) (by cbv) trivial ?_
  conv => cbv
  refine OkCall.by_spec (field_0_18 h0 h1 (v := l18) (by omega)) [] (by decide) (by cbv) trivial ?_
  conv => cbv
  refine OkCall.by_spec (field_0_22 h0 h1 (v := l22) (by omega)) [] (by decide) (by cbv) trivial ?_
  conv => cbv
  refine OkCall.by_spec (field_0_14 h0 h1 (v := l14) (by omega)) [] (by decide) (by cbv) trivial ?_
  conv => cbv
  refine Br.yes (by simp only [leafs, Bool.not_eq_false', Bool.not_eq_true', beq_iff_eq, beq_eq_false_iff_ne, ne_eq]; omega) ?_
  conv => cbv
  exact LeOut.two (LeOut.mk' [0] (by decide) rfl (by decide) (by cbv) (by cbv))
theorem apart_6 {w : Int} (h0 : 0 ≤ w) (h1 : w < 4294967296) (hk : w / 67108864 = 6) (hv : w % 16384 = 0) (x22 x18 x14 l18 l22 l14 l26 : Int) (hx22 : w / 4194304 % 16 = x22) (hx18 : w / 262144 % 16 = x18) (hx14 : w / 16384 % 16 = x14) (hl18 : w % 262144 = l18) (hl22 : w % 4194304 = l22) (hl14 : w % 16384 = l14) (hl26 : w % 67108864 = l26) : Spec1 kit 32 [.i .u32 (.ex w)] [] false (.agg [.i .i64 (.lit 5), .i .i64 (.ex x22), .i .i64 (.ex x18), .i .i64 (.ex x14), .i .i64 (.lit 0)]) [] [] := by
  refine Spec1.mk2 rfl fun F => ?_
  refine into I32ok 6 ?_
  conv => cbv
  refine OkCall.by_spec (field_26_6 h0 h1 (v := 6) (by omega)) [] (by decide) (by cbv) trivial ?_
  conv => cbv
  refine Obs.int (.lit 5) (by show (5 : Int) = subI .i64 6 1; rw [subI_eq]; rfl) ?_
  conv => cbv
  refine OkCall.by_spec (field_22_4 h0 h1 hx22) [] (by decide) (by cbv) trivial ?_
  conv => cbv
  refine OkCall.by_spec (field_18_4 h0 h1 hx18) [] (by decide) (by cbv) trivial ?_
  conv => cbv
  refine OkCall.by_spec (field_14_4 h0 h1 hx14) [] (by decide) (by cbv) trivial ?_
  conv => cbv
  refine OkCall.by_spec (field_0_18 h0 h1 (v := l18) (by omega)) [] (by decide) (by cbv) trivial ?_
  conv => cbv
  refine OkCall.by_spec (field_0_22 h0 h1 (v := l22) (by omega)) [] (by decide) (by cbv) trivial ?_
  conv => cbv
  refine OkCall.by_spec (field_0_14 h0 h1 (v := l14) (by omega)) [] (by decide) (by cbv) trivial ?_
  conv => cbv
  refine Br.no (by simp only [leafs, Bool.not_eq_false', Bool.not_eq_true', beq_iff_eq, beq_eq_false_iff_ne, ne_eq]; omega) ?_
  conv => cbv
  exact LeOut.two (LeOut.mk' [0] (by decide) rfl (by decide) (by cbv) (by cbv))
theorem apart_6_bad {w : Int} (h0 : 0 ≤ w) (h1 : w < 4294967296) (hk : w / 67108864 = 6) (hv : w % 16384 ≠ 0) (x22 x18 x14 l18 l22 l14 l26 : Int) (hx22 : w / 4194304 % 16 = x22) (hx18 : w / 262144 % 16 = x18) (hx14 : w / 16384 % 16 = x14) (hl18 : w % 262144 = l18) (hl22 : w % 4194304 = l22) (hl14 : w % 16384 = l14) (hl26 : w % 67108864 = l26) : Spec1 kit 32 [.i .u32 (.ex w)] [] false (.agg [.i .i64 (.lit (-1)), .i .i64 (.lit 0), .i .i64 (.lit 0), .i .i64 (.lit 0), .i .i64 (.lit 0)]) [] [] := by
  refine Spec1.mk2 rfl fun F => ?_
  refine into I32ok 6 ?_
  conv => cbv
  refine OkCall.by_spec (field_26_6 h0 h1 (v := 6) (by omega)) [] (by decide) (by cbv) trivial ?_
  conv => cbv
  refine Obs.int (.lit 5) (by show (5 : Int) = subI .i64 6 1; rw [subI_eq]; rfl) ?_
  conv => cbv
  refine OkCall.by_spec (field_22_4 h0 h1 hx22) [] (by decide) (by cbv) trivial ?_
  conv => cbv
  refine OkCall.by_spec (field_18_4 h0 h1 hx18) [] (by decide) (by cbv) trivial ?_
  conv => cbv
  refine OkCall.by_spec (field_14_4 h0 h1 hx14) [] (by decide) (by cbv) trivial ?_
  conv => cbv
  refine OkCall.by_spec (field_0_18 h0 h1 (v := l18) (by omega)) [] (by decide) (by cbv) trivial ?_
  conv => cbv
  refine OkCall.by_spec (field_0_22 h0 h1 (v := l22) (by omega)) [] (by decide) (by cbv) trivial ?_
  conv => cbv
  refine OkCall.by_spec (field_0_14 h0 h1 (v := l14) (by omega)) [] (by decide) (by cbv) trivial ?_
  conv => cbv
  refine Br.yes (by simp only [leafs, Bool.not_eq_false', Bool.not_eq_true', beq_iff_eq, beq_eq_false_iff_ne, ne_eq]; omega) ?_
  conv => cbv
  exact LeOut.two (LeOut.mk' [0] (by decide) rfl (by decide) (by cbv) (by cbv))
theorem apart_7 {w : Int} (h0 : 0 ≤ w) (h1 : w < 4294967296) (hk : w / 67108864 = 7) (hv : w % 16384 = 0) (x22 x18 x14 l18 l22 l14 l26 : Int) (hx22 : w / 4194304 % 16 = x22) (hx18 : w / 262144 % 16 = x18) (hx14 : w / 16384 % 16 = x14) (hl18 : w % 262144 = l18) (hl22 : w % 4194304 = l22) (hl14 : w % 16384 = l14) (hl26 : w % 67108864 = l26) : Spec1 kit 32 [.i .u32 (.ex w)] [] false (.agg [.i .i64 (.lit 6), .i .i64 (.ex x22), .i .i64 (.ex x18), .i .i64 (.ex x14), .i .i64 (.lit 0)]) [] [] := by
  refine Spec1.mk2 rfl fun F => ?_
  refine into I32ok 6 ?_
  conv => cbv
  refine OkCall.by_spec (field_26_6 h0 h1 (v := 7) (by omega)) [] (by decide) (by cbv) trivial ?_
  conv => cbv
  refine Obs.int (.lit 6) (by show (6 : Int) = subI .i64 7 1; rw [subI_eq]; rfl) ?_
  conv => cbv
  refine OkCall.by_spec (field_22_4 h0 h1 hx22) [] (by decide) (by cbv) trivial ?_
  conv => cbv
  refine OkCall.by_spec (field_18_4 h0 h1 hx18) [] (by decide) (by cbv) trivial ?_
  conv => cbv
  refine OkCall.by_spec (field_14_4 h0 h1 hx14) [] (by decide) (by cbv) trivial ?_
  conv => cbv
  refine OkCall.by_spec (field_0_18 h0 h1 (v := l18) (by omega)) [] (by decide) (by cbv) trivial ?_
  conv => cbv
  refine OkCall.by_spec (field_0_22 h0 h1 (v := l22) (by omega)) [] (by decide) (by cbv) trivial ?_
  conv => cbv
  refine OkCall.by_spec (field_0_14 h0 h1 (v := l14) (by omega)) [] (by decide) (by cbv) trivial ?_
  conv => cbv
  refine Br.no (by simp only [leafs, Bool.not_eq_false', Bool.not_eq_true', beq_iff_eq, beq_eq_false_iff_ne, ne_eq]; omega) ?_
  conv => cbv
  exact LeOut.two (LeOut.mk' [0] (by decide) rfl (by decide) (by cbv) (by cbv))
theorem apart_7_bad {w : Int} (h0 : 0 ≤ w) (h1 : w < 4294967296) (hk : w / 67108864 = 7) (hv : w % 16384 ≠ 0) (x22 x18 x14 l18 l22 l14 l26 : Int) (hx22 : w / 4194304 % 16 = x22) (hx18 : w / 262144 % 16 = x18) (hx14 : w / 16384 % 16 = x14) (hl18 : w % 262144 = l18) (hl22 : w % 4194304 = l22) (hl14 : w % 16384 = l14) (hl26 : w % 67108864 = l26) : Spec1 kit 32 [.i .u32 (.ex w)] [] false (.agg [.i .i64 (.lit (-1)), .i .i64 (.lit 0), .i .i64 (.lit 0), .i .i64 (.lit 0), .i .i64 (.lit 0)]) [] [] := by
  refine Spec1.mk2 rfl fun F => ?_
  refine into I32ok 6 ?_
  conv => cbv
  refine OkCall.by_spec (field_26_6 h0 h1 (v := 7) (by omega)) [] (by decide) (by cbv) trivial ?_
  conv => cbv
  refine Obs.int (.lit 6) (by show (6 : Int) = subI .i64 7 1; rw [subI_eq]; rfl) ?_
  conv => cbv
  refine OkCall.by_spec (field_22_4 h0 h1 hx22) [] (by decide) (by cbv) trivial ?_
  conv => cbv
  refine OkCall.by_spec (field_18_4 h0 h1 hx18) [] (by decide) (by cbv) trivial ?_
  conv => cbv
  refine OkCall.by_spec (field_14_4 h0 h1 hx14) [] (by decide) (by cbv) trivial ?_
  conv => cbv
  refine OkCall.by_spec (field_0_18 h0 h1 (v := l18) (by omega)) [] (by decide) (by cbv) trivial ?_
  conv => cbv
  refine OkCall.by_spec (field_0_22 h0 h1 (v := l22) (by omega)) [] (by decide) (by cbv) trivial ?_
  conv => cbv
  refine OkCall.by_spec (field_0_14 h0 h1 (v := l14) (by omega)) [] (by decide) (by cbv) trivial ?_
  conv => cbv
  refine Br.yes (by simp only [leafs, Bool.not_eq_false', Bool.not_eq_true', beq_iff_eq, beq_eq_false_iff_ne, ne_eq]; omega) ?_
  conv => cbv
  exact LeOut.two (LeOut.mk' [0] (by decide) rfl (by decide) (by cbv) (by cbv))
theorem apart_8 {w : Int} (h0 : 0 ≤ w) (h1 : w < 4294967296) (hk : w / 67108864 = 8) (hv : w % 16384 = 0) (x22 x18 x14 l18 l22 l14 l26 : Int) (hx22 : w / 4194304 % 16 = x22) (hx18 : w / 262144 % 16 = x18) (hx14 : w / 16384 % 16 = x14) (hl18 : w % 262144 = l18) (hl22 : w % 4194304 = l22) (hl14 : w % 16384 = l14) (hl26 : w % 67108864 = l26) : Spec1 kit 32 [.i .u32 (.ex w)] [] false (.agg [.i .i64 (.lit 7), .i .i64 (.ex x22), .i .i64 (.ex x18), .i .i64 (.ex x14), .i .i64 (.lit 0)]) [] [] := by
  refine Spec1.mk2 rfl fun F => ?_
  refine into I32ok 6 ?_
  conv => cbv
  refine OkCall.by_spec (field_26_6 h0 h1 (v := 8) (by omega)) [] (by decide) (by cbv) trivial ?_
  conv => cbv
  refine Obs.int (.lit 7) (by show (7 : Int) = subI .i64 8 1; rw [subI_eq]; rfl) ?_
  conv => cbv
  refine OkCall.by_spec (field_22_4 h0 h1 hx22) [] (by decide) (by cbv) trivial ?_
  conv => cbv
  refine OkCall.by_spec (field_18_4 h0 h1 hx18) [] (by decide) (by cbv) trivial ?_
  conv => cbv
  refine OkCall.by_spec (field_14_4 h0 h1 hx14) [] (by decide) (by cbv) trivial ?_
  conv => cbv
  refine OkCall.by_spec (field_0_18 h0 h1 (v := l18) (by omega)) [] (by decide) (by cbv) trivial ?_
  conv => cbv
  refine OkCall.by_spec (field_0_22 h0 h1 (v := l22) (by omega)) [] (by decide) (by cbv) trivial ?_
  conv => cbv
  refine OkCall.by_spec (field_0_14 h0 h1 (v := l14) (by omega)) [] (by decide) (by cbv) trivial ?_
  conv => cbv
  refine Br.no (by simp only [leafs, Bool.not_eq_false', Bool.not_eq_true', beq_iff_eq, beq_eq_false_iff_ne, ne_eq]; omega) ?_
  conv => cbv
  exact LeOut.two (LeOut.mk' [0] (by decide) rfl (by decide) (by cbv) (by cbv))
theorem apart_8_bad {w : Int} (h0 : 0 ≤ w) (h1 : w < 4294967296) (hk : w / 67108864 = 8) (hv : w % 16384 ≠ 0) (x22 x18 x14 l18 l22 l14 l26 : Int) (hx22 : w / 4194304 % 16 = x22) (hx18 : w / 262144 % 16 = x18) (hx14 : w / 16384 % 16 = x14) (hl18 : w % 262144 = l18) (hl22 : w % 4194304 = l22) (hl14 : w % 16384 = l14) (hl26 : w % 67108864 = l26) : Spec1 kit 32 [.i .u32 (.ex w)] [] false (.agg [.i .i64 (.lit (-1)), .i .i64 (.lit 0), .i .i64 (.lit 0), .i .i64 (.lit 0), .i .i64 (.lit 0)]) [] [] := by
  refine Spec1.mk2 rfl fun F => ?_
  refine into I32ok 6 ?_
  conv => cbv
  refine OkCall.by_spec (field_26_6 h0 h1 (v := 8) (by omega)) [] (by decide) (by cbv) trivial ?_
  conv => cbv
  refine Obs.int (.lit 7) (by show (7 : Int) = subI .i64 8 1; rw [subI_eq]; rfl) ?_
  conv => cbv
  refine OkCall.by_spec (field_22_4 h0 h1 hx22) [] (by decide) (by cbv) trivial ?_
  conv => cbv
  refine OkCall.by_spec (field_18_4 h0 h1 hx18) [] (by decide) (by cbv) trivial ?_
  conv => cbv
  refine OkCall.by_spec (field_14_4 h0 h1 hx14) [] (by decide) (by cbv) trivial ?_
  conv => cbv
  refine OkCall.by_spec (field_0_18 h0 h1 (v := l18) (by omega)) [] (by decide) (by cbv) trivial ?_
  conv => cbv
  refine OkCall.by_spec (field_0_22 h0 h1 (v := l22) (by omega)) [] (by decide) (by cbv) trivial ?_
  conv => cbv
  refine OkCall.by_spec (field_0_14 h0 h1 (v := l14) (by omega)) [] (by decide) (by cbv) trivial ?_
  conv => cbv
  refine Br.yes (by simp only [leafs, Bool.not_eq_false', Bool.not_eq_true', beq_iff_eq, beq_eq_false_iff_ne, ne_eq]; omega) ?_
  conv => cbv
  exact LeOut.two (LeOut.mk' [0] (by decide) rfl (by decide) (by cbv) (by cbv))
theorem apart_9 {w : Int} (h0 : 0 ≤ w) (h1 : w < 4294967296) (hk : w / 67108864 = 9) (hv : w % 16384 = 0) (x22 x18 x14 l18 l22 l14 l26 : Int) (hx22 : w / 4194304 % 16 = x22) (hx18 : w / 262144 % 16 = x18) (hx14 : w / 16384 % 16 = x14) (hl18 : w % 262144 = l18) (hl22 : w % 4194304 = l22) (hl14 : w % 16384 = l14) (hl26 : w % 67108864 = l26) : Spec1 kit 32 [.i .u32 (.ex w)] [] false (.agg [.i .i64 (.lit 8), .i .i64 (.ex x22), .i .i64 (.ex x18), .i .i64 (.ex x14), .i .i64 (.lit 0)]) [] [] := by
  refine Spec1.mk2 rfl fun F => ?_
  refine into I32ok 6 ?_
  conv => cbv
  refine OkCall.by_spec (field_26_6 h0 h1 (v := 9) (by omega)) [] (by decide) (by cbv) trivial ?_
  conv => cbv
  refine Obs.int (.lit 8) (by show (8 : Int) = subI .i64 9 1; rw [subI_eq]; rfl) ?_
  conv => cbv
  refine OkCall.by_spec (field_22_4 h0 h1 hx22) [] (by decide) (by cbv) trivial ?_
  conv => cbv
  refine OkCall.by_spec (field_18_4 h0 h1 hx18) [] (by decide) (by cbv) trivial ?_
  conv => cbv
  refine OkCall.by_spec (field_14_4 h0 h1 hx14) [] (by decide) (by cbv) trivial ?_
  conv => cbv
  refine OkCall.by_spec (field_0_18 h0 h1 (v := l18) (by omega)) [] (by decide) (by cbv) trivial ?_
  conv => cbv
  refine OkCall.by_spec (field_0_22 h0 h1 (v := l22) (by omega)) [] (by decide) (by cbv) trivial ?_
  conv => cbv
  refine OkCall.by_spec (field_0_14 h0 h1 (v := l14) (by omega)) [] (by decide) (by cbv) trivial ?_
  conv => cbv
  refine Br.no (by simp only [leafs, Bool.not_eq_false', Bool.not_eq_true', beq_iff_eq, beq_eq_false_iff_ne, ne_eq]; omega) ?_
  conv => cbv
  exact LeOut.two (LeOut.mk' [0] (by decide) rfl (by decide) (by cbv) (by cbv))
theorem apart_9_bad {w : Int} (h0 : 0 ≤ w) (h1 : w < 4294967296) (hk : w / 67108864 = 9) (hv : w % 16384 ≠ 0) (x22 x18 x14 l18 l22 l14 l26 : Int) (hx22 : w / 4194304 % 16 = x22) (hx18 : w / 262144 % 16 = x18) (hx14 : w / 16384 % 16 = x14) (hl18 : w % 262144 = l18) (hl22 : w % 4194304 = l22) (hl14 : w % 16384 = l14) (hl26 : w % 67108864 = l26) : Spec1 kit 32 [.i .u32 (.ex w)] [] false (.agg [.i .i64 (.lit (-1)), .i .i64 (.lit 0), .i .i64 (.lit 0), .i .i64 (.lit 0), .i .i64 (.lit 0)]) [] [] := by
  refine Spec1.mk2 rfl fun F => ?_
  refine into I32ok 6 ?_
  conv => cbv
  refine OkCall.by_spec (field_26_6 h0 h1 (v := 9) (by omega)) [] (by decide) (by cbv) trivial ?_
  conv => cbv
  refine Obs.int (.lit 8) (by show (8 : Int) = subI .i64 9 1; rw [subI_eq]; rfl) ?_
  conv => cbv
  refine OkCall.by_spec (field_22_4 h0 h1 hx22) [] (by decide) (by cbv) trivial ?_
  conv => cbv
  refine OkCall.by_spec (field_18_4 h0 h1 hx18) [] (by decide) (by cbv) trivial ?_
  conv => cbv
  refine OkCall.by_spec (field_14_4 h0 h1 hx14) [] (by decide) (by cbv) trivial ?_
  conv => cbv
  refine OkCall.by_spec (field_0_18 h0 h1 (v := l18) (by omega)) [] (by decide) (by cbv) trivial ?_
  conv => cbv
  refine OkCall.by_spec (field_0_22 h0 h1 (v := l22) (by omega)) [] (by decide) (by cbv) trivial ?_
  conv => cbv
  refine OkCall.by_spec (field_0_14 h0 h1 (v := l14) (by omega)) [] (by decide) (by cbv) trivial ?_
  conv => cbv
  refine Br.yes (by simp only [leafs, Bool.not_eq_false', Bool.not_eq_true', beq_iff_eq, beq_eq_false_iff_ne, ne_eq]; omega) ?_
  conv => cbv
  exact LeOut.two (LeOut.mk' [0] (by decide) rfl (by decide) (by cbv) (by cbv))
theorem apart_10 {w : Int} (h0 : 0 ≤ w) (h1 : w < 4294967296) (hk : w / 67108864 = 10) (hv : w % 16384 = 0) (x22 x18 x14 l18 l22 l14 l26 : Int) (hx22 : w / 4194304 % 16 = x22) (hx18 : w / 262144 % 16 = x18) (hx14 : w / 16384 % 16 = x14) (hl18 : w % 262144 = l18) (hl22 : w % 4194304 = l22) (hl14 : w % 16384 = l14) (hl26 : w % 67108864 = l26) : Spec1 kit 32 [.i .u32 (.ex w)] [] false (.agg [.i .i64 (.lit 9), .i .i64 (.ex x22), .i .i64 (.ex x18), .i .i64 (.ex x14), .i .i64 (.lit 0)]) [] [] := by
  refine Spec1.mk2 rfl fun F => ?_
  refine into I32ok 6 ?_
  conv => cbv
  refine OkCall.by_spec (field_26_6 h0 h1 (v := 10) (by omega)) [] (by decide) (by cbv) trivial ?_
  conv => cbv
  refine Obs.int (.lit 9) (by show (9 : Int) = subI .i64 10 1; rw [subI_eq]; rfl) ?_
  conv => cbv
  refine OkCall.by_spec (field_22_4 h0 h1 hx22) [] (by decide) (by cbv) trivial ?_
  conv => cbv
  refine OkCall.by_spec (field_18_4 h0 h1 hx18) [] (by decide) (by cbv) trivial ?_
  conv => cbv
  refine OkCall.by_spec (field_14_4 h0 h1 hx14) [] (by decide) (by cbv) trivial ?_
  conv => cbv
  refine OkCall.by_spec (field_0_18 h0 h1 (v := l18) (by omega)) [] (by decide) (by cbv) trivial ?_
  conv => cbv
  refine OkCall.by_spec (field_0_22 h0 h1 (v := l22) (by omega)) [] (by decide) (by cbv) trivial ?_
  conv => cbv
  refine OkCall.by_spec (field_0_14 h0 h1 (v := l14) (by omega)) [] (by decide) (by cbv) trivial ?_
  conv => cbv
  refine Br.no (by simp only [leafs, Bool.not_eq_false', Bool.not_eq_true', beq_iff_eq, beq_eq_false_iff_ne, ne_eq]; omega) ?_
  conv => cbv
  exact LeOut.two (LeOut.mk' [0] (by decide) rfl (by decide) (by cbv) (by cbv))
theorem apart_10_bad {w : Int} (h0 : 0 ≤ w) (h1 : w < 4294967296) (hk : w / 67108864 = 10) (hv : w % 16384 ≠ 0) (x22 x18 x14 l18 l22 l14 l26 : Int) (hx22 : w / 4194304 % 16 = x22) (hx18 : w / 262144 % 16 = x18) (hx14 : w / 16384 % 16 = x14) (hl18 : w % 262144 = l18) (hl22 : w % 4194304 = l22) (hl14 : w % 16384 = l14) (hl26 : w % 67108864 = l26) : Spec1 kit 32 [.i .u32 (.ex w)] [] false (.agg [.i .i64 (.lit (-1)), .i .i64 (.lit 0), .i .i64 (.lit 0), .i .i64 (.lit 0), .i .i64 (.lit 0)]) [] [] := by
  refine Spec1.mk2 rfl fun F => ?_
  refine into I32ok 6 ?_
  conv => cbv
  refine OkCall.by_spec (field_26_6 h0 h1 (v := 10) (by omega)) [] (by decide) (by cbv) trivial ?_
  conv => cbv
  refine Obs.int (.lit 9) (by show (9 : Int) = subI .i64 10 1; rw [subI_eq]; rfl) ?_
  conv => cbv
  refine OkCall.by_spec (field_22_4 h0 h1 hx22) [] (by decide) (by cbv) trivial ?_
  conv => cbv
  refine OkCall.by_spec (field_18_4 h0 h1 hx18) [] (by decide) (by cbv) trivial ?_
  conv => cbv
  refine OkCall.by_spec (field_14_4 h0 h1 hx14) [] (by decide) (by cbv) trivial ?_
  conv => cbv
  refine OkCall.by_spec (field_0_18 h0 h1 (v := l18) (by omega)) [] (by decide) (by cbv) trivial ?_
  conv => cbv
  refine OkCall.by_spec (field_0_22 h0 h1 (v := l22) (by omega)) [] (by decide) (by cbv) trivial ?_
  conv => cbv
  refine OkCall.by_spec (field_0_14 h0 h1 (v := l14) (by omega)) [] (by decide) (by cbv) trivial ?_
  conv => cbv
  refine Br.yes (by simp only [leafs, Bool.not_eq_false', Bool.not_eq_true', beq_iff_eq, beq_eq_false_iff_ne, ne_eq]; omega) ?_
  conv => cbv
  exact LeOut.two (LeOut.mk' [0] (by decide) rfl (by decide) (by cbv) (by cbv))
theorem apart_11 {w : Int} (h0 : 0 ≤ w) (h1 : w < 4294967296) (hk : w / 67108864 = 11) (hv : w % 16384 = 0) (x22 x18 x14 l18 l22 l14 l26 : Int) (hx22 : w / 4194304 % 16 = x22) (hx18 : w / 262144 % 16 = x18) (hx14 : w / 16384 % 16 = x14) (hl18 : w % 262144 = l18) (hl22 : w % 4194304 = l22) (hl14 : w % 16384 = l14) (hl26 : w % 67108864 = l26) : Spec1 kit 32 [.i .u32 (.ex w)] [] false (.agg [.i .i64 (.lit 10), .i .i64 (.ex x22), .i .i64 (.ex x18), .i .i64 (.ex x14), .i .i64 (.lit 0)]) [] [] := by
  refine Spec1.mk2 rfl fun F => ?_
  refine into I32ok 6 ?_
  conv => cbv
  refine OkCall.by_spec (field_26_6 h0 h1 (v := 11) (by omega)) [] (by decide) (by cbv) trivial ?_
  conv => cbv
  refine Obs.int (.lit 10) (by show (10 : Int) = subI .i64 11 1; rw [subI_eq]; rfl) ?_
  conv => cbv
  refine OkCall.by_spec (field_22_4 h0 h1 hx22) [] (by decide) (by cbv) trivial ?_
  conv => cbv
  refine OkCall.by_spec (field_18_4 h0 h1 hx18) [] (by decide) (by cbv) trivial ?_
  conv => cbv
  refine OkCall.by_spec (field_14_4 h0 h1 hx14) [] (by decide) (by cbv) trivial ?_
  conv => cbv
  refine OkCall.by_spec (field_0_18 h0 h1 (v := l18) (by omega)) [] (by decide) (by cbv) trivial ?_
  conv => cbv
  refine OkCall.by_spec (field_0_22 h0 h1 (v := l22) (by omega)) [] (by decide) (by cbv) trivial ?_
  conv => cbv
  refine OkCall.by_spec (field_0_14 h0 h1 (v := l14) (by omega)) [] (by decide) (by cbv) trivial ?_
  conv => cbv
  refine Br.no (by simp only [leafs, Bool.not_eq_false', Bool.not_eq_true', beq_iff_eq, beq_eq_false_iff_ne, ne_eq]; omega) ?_
  conv => cbv
  exact LeOut.two (LeOut.mk' [0] (by decide) rfl (by decide) (by cbv) (by cbv))
theorem apart_11_bad {w : Int} (h0 : 0 ≤ w) (h1 : w < 4294967296) (hk : w / 67108864 = 11) (hv : w % 16384 ≠ 0) (x22 x18 x14 l18 l22 l14 l26 : Int) (hx22 : w / 4194304 % 16 = x22) (hx18 : w / 262144 % 16 = x18) (hx14 : w / 16384 % 16 = x14) (hl18 : w % 262144 = l18) (hl22 : w % 4194304 = l22) (hl14 : w % 16384 = l14) (hl26 : w % 67108864 = l26) : Spec1 kit 32 [.i .u32 (.ex w)] [] false (.agg [.i .i64 (.lit (-1)), .i .i64 (.lit 0), .i .i64 (.lit 0), .i .i64 (.lit 0), .i .i64 (.lit 0)]) [] [] := by
  refine Spec1.mk2 rfl fun F => ?_
  refine into I32ok 6 ?_
  conv => cbv
  refine OkCall.by_spec (field_26_6 h0 h1 (v := 11) (by omega)) [] (by decide) (by cbv) trivial ?_
  conv => cbv
  refine Obs.int (.lit 10) (by show (10 : Int) = subI .i64 11 1; rw [subI_eq]; rfl) ?_
  conv => cbv
  refine OkCall.by_spec (field_22_4 h0 h1 hx22) [] (by decide) (by cbv) trivial ?_
  conv => cbv
  refine OkCall.by_spec (field_18_4 h0 h1 hx18) [] (by decide) (by cbv) trivial ?_
  conv => cbv
  refine OkCall.by_spec (field_14_4 h0 h1 hx14) [] (by decide) (by cbv) trivial ?_
  conv => cbv
  refine OkCall.by_spec (field_0_18 h0 h1 (v := l18) (by omega)) [] (by decide) (by cbv) trivial ?_
  conv => cbv
  refine OkCall.by_spec (field_0_22 h0 h1 (v := l22) (by omega)) [] (by decide) (by cbv) trivial ?_
  conv => cbv
  refine OkCall.by_spec (field_0_14 h0 h1 (v := l14) (by omega)) [] (by decide) (by cbv) trivial ?_
  conv => cbv
  refine Br.yes (by simp only [leafs, Bool.not_eq_false', Bool.not_eq_true', beq_iff_eq, beq_eq_false_iff_ne, ne_eq]; omega) ?_
  conv => cbv
  exact LeOut.two (LeOut.mk' [0] (by decide) rfl (by decide) (by cbv) (by cbv))
theorem apart_12 {w : Int} (h0 : 0 ≤ w) (h1 : w < 4294967296) (hk : w / 67108864 = 12) (hv : w % 16384 = 0) (x22 x18 x14 l18 l22 l14 l26 : Int) (hx22 : w / 4194304 % 16 = x22) (hx18 : w / 262144 % 16 = x18) (hx14 : w / 16384 % 16 = x14) (hl18 : w % 262144 = l18) (hl22 : w % 4194304 = l22) (hl14 : w % 16384 = l14) (hl26 : w % 67108864 = l26) : Spec1 kit 32 [.i .u32 (.ex w)] [] false (.agg [.i .i64 (.lit 11), .i .i64 (.ex x22), .i .i64 (.ex x18), .i .i64 (.ex x14), .i .i64 (.lit 0)]) [] [] := by
  refine Spec1.mk2 rfl fun F => ?_
  refine into I32ok 6 ?_
  conv => cbv
  refine OkCall.by_spec (field_26_6 h0 h1 (v := 12) (by omega)) [] (by decide) (by cbv) trivial ?_
  conv => cbv
  refine Obs.int (.lit 11) (by show (11 : Int) = subI .i64 12 1; rw [subI_eq]; rfl) ?_
  conv => cbv
  refine OkCall.by_spec (field_22_4 h0 h1 hx22) [] (by decide) (by cbv) trivial ?_
  conv => cbv
  refine OkCall.by_spec (field_18_4 h0 h1 hx18) [] (by decide) (by cbv) trivial ?_
  conv => cbv
  refine OkCall.by_spec (field_14_4 h0 h1 hx14) [] (by decide) (by cbv) trivial ?_
  conv => cbv
  refine OkCall.by_spec (field_0_18 h0 h1 (v := l18) (by omega)) [] (by decide) (by cbv) trivial ?_
  conv => cbv
  refine OkCall.by_spec (field_0_22 h0 h1 (v := l22) (by omega)) [] (by decide) (by cbv) trivial ?_
  conv => cbv
  refine OkCall.by_spec (field_0_14 h0 h1 (v := l14) (by omega)) [] (by decide) (by cbv) trivial ?_
  conv => cbv
  refine Br.no (by simp only [leafs, Bool.not_eq_false', Bool.not_eq_true', beq_iff_eq, beq_eq_false_iff_ne, ne_eq]; omega) ?_
  conv => cbv
  exact LeOut.two (LeOut.mk' [0] (by decide) rfl (by decide) (by cbv) (by cbv))
theorem apart_12_bad {w : Int} (h0 : 0 ≤ w) (h1 : w < 4294967296) (hk : w / 67108864 = 12) (hv : w % 16384 ≠ 0) (x22 x18 x14 l18 l22 l14 l26 : Int) (hx22 : w / 4194304 % 16 = x22) (hx18 : w / 262144 % 16 = x18) (hx14 : w / 16384 % 16 = x14) (hl18 : w % 262144 = l18) (hl22 : w % 4194304 = l22) (hl14 : w % 16384 = l14) (hl26 : w % 67108864 = l26) : Spec1 kit 32 [.i .u32 (.ex w)] [] false (.agg [.i .i64 (.lit (-1)), .i .i64 (.lit 0), .i .i64 (.lit 0), .i .i64 (.lit 0), .i .i64 (.lit 0)]) [] [] := by
  refine Spec1.mk2 rfl fun F => ?_
  refine into I32ok 6 ?_
  conv => cbv
  refine OkCall.by_spec (field_26_6 h0 h1 (v := 12) (by omega)) [] (by decide) (by cbv) trivial ?_
  conv => cbv
  refine Obs.int (.lit 11) (by show (11 : Int) = subI .i64 12 1; rw [subI_eq]; rfl) ?_
  conv => cbv
  refine OkCall.by_spec (field_22_4 h0 h1 hx22) [] (by decide) (by cbv) trivial ?_
  conv => cbv
  refine OkCall.by_spec (field_18_4 h0 h1 hx18) [] (by decide) (by cbv) trivial ?_
  conv => cbv
  refine OkCall.by_spec (field_14_4 h0 h1 hx14) [] (by decide) (by cbv) trivial ?_
  conv => cbv
  refine OkCall.by_spec (field_0_18 h0 h1 (v := l18) (by omega)) [] (by decide) (by cbv) trivial ?_
  conv => cbv
  refine OkCall.by_spec (field_0_22 h0 h1 (v := l22) (by omega)) [] (by decide) (by cbv) trivial ?_
  conv => cbv
  refine OkCall.by_spec (field_0_14 h0 h1 (v := l14) (by omega)) [] (by decide) (by cbv) trivial ?_
  conv => cbv
  refine Br.yes (by simp only [leafs, Bool.not_eq_false', Bool.not_eq_true', beq_iff_eq, beq_eq_false_iff_ne, ne_eq]; omega) ?_
  conv => cbv
  exact LeOut.two (LeOut.mk' [0] (by decide) rfl (by decide) (by cbv) (by cbv))
theorem apart_13 {w : Int} (h0 : 0 ≤ w) (h1 : w < 4294967296) (hk : w / 67108864 = 13) (hv : w % 16384 = 0) (x22 x18 x14 l18 l22 l14 l26 : Int) (hx22 : w / 4194304 % 16 = x22) (hx18 : w / 262144 % 16 = x18) (hx14 : w / 16384 % 16 = x14) (hl18 : w % 262144 = l18) (hl22 : w % 4194304 = l22) (hl14 : w % 16384 = l14) (hl26 : w % 67108864 = l26) : Spec1 kit 32 [.i .u32 (.ex w)] [] false (.agg [.i .i64 (.lit 12), .i .i64 (.ex x22), .i .i64 (.ex x18), .i .i64 (.ex x14), .i .i64 (.lit 0)]) [] [] := by
  refine Spec1.mk2 rfl fun F => ?_
  refine into I32ok 6 ?_
  conv => cbv
  refine OkCall.by_spec (field_26_6 h0 h1 (v := 13) (by omega)) [] (by decide) (by cbv) trivial ?_
  conv => cbv
  refine Obs.int (.lit 12) (by show (12 : Int) = subI .i64 13 1; rw [subI_eq]; rfl) ?_
  conv => cbv
  refine OkCall.by_spec (field_22_4 h0 h1 hx22) [] (by decide) (by cbv) trivial ?_
  conv => cbv
  refine OkCall.by_spec (field_18_4 h0 h1 hx18) [] (by decide) (by cbv) trivial ?_
  conv => cbv
  refine OkCall.by_spec (field_14_4 h0 h1 hx14) [] (by decide) (by cbv) trivial ?_
  conv => cbv
  refine OkCall.by_spec (field_0_18 h0 h1 (v := l18) (by omega)) [] (by decide) (by cbv) trivial ?_
  conv => cbv
  refine OkCall.by_spec (field_0_22 h0 h1 (v := l22) (by omega)) [] (by decide) (by cbv) trivial ?_
  conv => cbv
  refine OkCall.by_spec (field_0_14 h0 h1 (v := l14) (by omega)) [] (by decide) (by cbv) trivial ?_
  conv => cbv
  refine Br.no (by simp only [leafs, Bool.not_eq_false', Bool.not_eq_true', beq_iff_eq, beq_eq_false_iff_ne, ne_eq]; omega) ?_
  conv => cbv
  exact LeOut.two (LeOut.mk' [0] (by decide) rfl (by decide) (by cbv) (by cbv))
theorem apart_13_bad {w : Int} (h0 : 0 ≤ w) (h1 : w < 4294967296) (hk : w / 67108864 = 13) (hv : w % 16384 ≠ 0) (x22 x18 x14 l18 l22 l14 l26 : Int) (hx22 : w / 4194304 % 16 = x22) (hx18 : w / 262144 % 16 = x18) (hx14 : w / 16384 % 16 = x14) (hl18 : w % 262144 = l18) (hl22 : w % 4194304 = l22) (hl14 : w % 16384 = l14) (hl26 : w % 67108864 = l26) : Spec1 kit 32 [.i .u32 (.ex w)] [] false (.agg [.i .i64 (.lit (-1)), .i .i64 (.lit 0), .i .i64 (.lit 0), .i .i64 (.lit 0), .i .i64 (.lit 0)]) [] [] := by
  refine Spec1.mk2 rfl fun F => ?_
  refine into I32ok 6 ?_
  conv => cbv
  refine OkCall.by_spec (field_26_6 h0 h1 (v := 13) (by omega)) [] (by decide) (by cbv) trivial ?_
  conv => cbv
  refine Obs.int (.lit 12) (by show (12 : Int) = subI .i64 13 1; rw [subI_eq]; rfl) ?_
  conv => cbv
  refine OkCall.by_spec (field_22_4 h0 h1 hx22) [] (by decide) (by cbv) trivial ?_
  conv => cbv
  refine OkCall.by_spec (field_18_4 h0 h1 hx18) [] (by decide) (by cbv) trivial ?_
  conv => cbv
  refine OkCall.by_spec (field_14_4 h0 h1 hx14) [] (by decide) (by cbv) trivial ?_
  conv => cbv
  refine OkCall.by_spec (field_0_18 h0 h1 (v := l18) (by omega)) [] (by decide) (by cbv) trivial ?_
  conv => cbv
  refine OkCall.by_spec (field_0_22 h0 h1 (v := l22) (by omega)) [] (by decide) (by cbv) trivial ?_
  conv => cbv
  refine OkCall.by_spec (field_0_14 h0 h1 (v := l14) (by omega)) [] (by decide) (by cbv) trivial ?_
  conv => cbv
  refine Br.yes (by simp only [leafs, Bool.not_eq_false', Bool.not_eq_true', beq_iff_eq, beq_eq_false_iff_ne, ne_eq]; omega) ?_
  conv => cbv
  exact LeOut.two (LeOut.mk' [0] (by decide) rfl (by decide) (by cbv) (by cbv))
theorem apart_14 {w : Int} (h0 : 0 ≤ w) (h1 : w < 4294967296) (hk : w / 67108864 = 14) (i : Int) (hi : i = if 131072 ≤ w % 262144 then w % 262144 - 262144 else w % 262144) (x22 x18 x14 l18 l22 l14 l26 : Int) (hx22 : w / 4194304 % 16 = x22) (hx18 : w / 262144 % 16 = x18) (hx14 : w / 16384 % 16 = x14) (hl18 : w % 262144 = l18) (hl22 : w % 4194304 = l22) (hl14 : w % 16384 = l14) (hl26 : w % 67108864 = l26) : Spec1 kit 32 [.i .u32 (.ex w)] [] false (.agg [.i .i64 (.lit 13), .i .i64 (.ex x22), .i .i64 (.ex x18), .i .i64 (.ex x14), .i .i64 (.ex i)]) [] [] := by
  refine Spec1.mk2 rfl fun F => ?_
  refine into I32ok 6 ?_
  conv => cbv
  refine OkCall.by_spec (field_26_6 h0 h1 (v := 14) (by omega)) [] (by decide) (by cbv) trivial ?_
  conv => cbv
  refine Obs.int (.lit 13) (by show (13 : Int) = subI .i64 14 1; rw [subI_eq]; rfl) ?_
  conv => cbv
  refine OkCall.by_spec (field_22_4 h0 h1 hx22) [] (by decide) (by cbv) trivial ?_
  conv => cbv
  refine OkCall.by_spec (field_18_4 h0 h1 hx18) [] (by decide) (by cbv) trivial ?_
  conv => cbv
  refine OkCall.by_spec (field_14_4 h0 h1 hx14) [] (by decide) (by cbv) trivial ?_
  conv => cbv
  refine OkCall.by_spec (field_0_18 h0 h1 (v := l18) (by omega)) [] (by decide) (by cbv) trivial ?_
  conv => cbv
  refine OkCall.by_spec (field_0_22 h0 h1 (v := l22) (by omega)) [] (by decide) (by cbv) trivial ?_
  conv => cbv
  refine Br.mk (fun hc => ?_) (fun hc => ?_)
  · simp only [leafs, decide_eq_true_eq] at hc
    conv => cbv
    refine LeOut.two (LeOut.mk' [0] (by decide) rfl (by decide) ?_ (by cbv))
    conv => cbv
    refine ⟨?_, trivial⟩
    show i = subI .i64 l18 262144
    rw [subI_eq, IntWalk.i64_in _ (by omega), hi]; omega
  · simp only [leafs, decide_eq_false_iff_not] at hc
    conv => cbv
    refine LeOut.two (LeOut.mk' [0] (by decide) rfl (by decide) ?_ (by cbv))
    conv => cbv
    refine ⟨?_, trivial⟩
    show i = l18
    rw [hi]; omega
theorem apart_15 {w : Int} (h0 : 0 ≤ w) (h1 : w < 4294967296) (hk : w / 67108864 = 15) (x22 x18 x14 l18 l22 l14 l26 : Int) (hx22 : w / 4194304 % 16 = x22) (hx18 : w / 262144 % 16 = x18) (hx14 : w / 16384 % 16 = x14) (hl18 : w % 262144 = l18) (hl22 : w % 4194304 = l22) (hl14 : w % 16384 = l14) (hl26 : w % 67108864 = l26) : Spec1 kit 32 [.i .u32 (.ex w)] [] false (.agg [.i .i64 (.lit 14), .i .i64 (.ex x22), .i .i64 (.ex x18), .i .i64 (.ex x14), .i .i64 (.ex l18)]) [] [] := by
  refine Spec1.mk2 rfl fun F => ?_
  refine into I32ok 6 ?_
  conv => cbv
  refine OkCall.by_spec (field_26_6 h0 h1 (v := 15) (by omega)) [] (by decide) (by cbv) trivial ?_
  conv => cbv
  refine Obs.int (.lit 14) (by show (14 : Int) = subI .i64 15 1; rw [subI_eq]; rfl) ?_
  conv => cbv
  refine OkCall.by_spec (field_22_4 h0 h1 hx22) [] (by decide) (by cbv) trivial ?_
  conv => cbv
  refine OkCall.by_spec (field_18_4 h0 h1 hx18) [] (by decide) (by cbv) trivial ?_
  conv => cbv
  refine OkCall.by_spec (field_14_4 h0 h1 hx14) [] (by decide) (by cbv) trivial ?_
  conv => cbv
  refine OkCall.by_spec (field_0_18 h0 h1 (v := l18) (by omega)) [] (by decide) (by cbv) trivial ?_
  conv => cbv
  refine OkCall.by_spec (field_0_22 h0 h1 (v := l22) (by omega)) [] (by decide) (by cbv) trivial ?_
  conv => cbv
  exact LeOut.two (LeOut.mk' [0] (by decide) rfl (by decide) (by cbv) (by cbv))
theorem apart_16 {w : Int} (h0 : 0 ≤ w) (h1 : w < 4294967296) (hk : w / 67108864 = 16) (x22 x18 x14 l18 l22 l14 l26 : Int) (hx22 : w / 4194304 % 16 = x22) (hx18 : w / 262144 % 16 = x18) (hx14 : w / 16384 % 16 = x14) (hl18 : w % 262144 = l18) (hl22 : w % 4194304 = l22) (hl14 : w % 16384 = l14) (hl26 : w % 67108864 = l26) : Spec1 kit 32 [.i .u32 (.ex w)] [] false (.agg [.i .i64 (.lit 15), .i .i64 (.ex x22), .i .i64 (.ex x18), .i .i64 (.ex x14), .i .i64 (.ex l18)]) [] [] := by
  refine Spec1.mk2 rfl fun F => ?_
  refine into I32ok 6 ?_
  conv => cbv
  refine OkCall.by_spec (field_26_6 h0 h1 (v := 16) (by omega)) [] (by decide) (by cbv) trivial ?_
  conv => cbv
  refine Obs.int (.lit 15) (by show (15 : Int) = subI .i64 16 1; rw [subI_eq]; rfl) ?_
  conv => cbv
  refine OkCall.by_spec (field_22_4 h0 h1 hx22) [] (by decide) (by cbv) trivial ?_
  conv => cbv
  refine OkCall.by_spec (field_18_4 h0 h1 hx18) [] (by decide) (by cbv) trivial ?_
  conv => cbv
  refine OkCall.by_spec (field_14_4 h0 h1 hx14) [] (by decide) (by cbv) trivial ?_
  conv => cbv
  refine OkCall.by_spec (field_0_18 h0 h1 (v := l18) (by omega)) [] (by decide) (by cbv) trivial ?_
  conv => cbv
  refine OkCall.by_spec (field_0_22 h0 h1 (v := l22) (by omega)) [] (by decide) (by cbv) trivial ?_
  conv => cbv
  exact LeOut.two (LeOut.mk' [0] (by decide) rfl (by decide) (by cbv) (by cbv))
end Go.Proofs.YtkljgpepogkgdaaDoor

namespace Go.Proofs.YtkljgpepogkgdaaDoor
open Go Go.Vex
set_option maxRecDepth 20000
set_option maxHeartbeats 4000000

theorem apart_17 {w : Int} (h0 : 0 ≤ w) (h1 : w < 4294967296) (hk : w / 67108864 = 17) (x22 x18 x14 l18 l22 l14 l26 : Int) (hx22 : w / 4194304 % 16 = x22) (hx18 : w / 262144 % 16 = x18) (hx14 : w / 16384 % 16 = x14) (hl18 : w % 262144 = l18) (hl22 : w % 4194304 = l22) (hl14 : w % 16384 = l14) (hl26 : w % 67108864 = l26) : Spec1 kit 32 [.i .u32 (.ex w)] [] false (.agg [.i .i64 (.lit 16), .i .i64 (.ex x22), .i .i64 (.ex x18), .i .i64 (.ex x14), .i .i64 (.ex l18)]) [] [] := by
  refine Spec1.mk2 rfl fun F => ?_
  refine into I32ok 6 ?_
  conv => cbv
  refine OkCall.by_spec (field_26_6 h0 h1 (v := 17) (by omega)) [] (by decide) (by cbv) trivial ?_
  conv => cbv
  refine Obs.int (.lit 16) (by show (16 : Int) = subI .i64 17 1; rw [subI_eq]; rfl) ?_
  conv => cbv
  refine OkCall.by_spec (field_22_4 h0 h1 hx22) [] (by decide) (by cbv) trivial ?_
  conv => cbv
  refine OkCall.by_spec (field_18_4 h0 h1 hx18) [] (by decide) (by cbv) trivial ?_
  conv => cbv
  refine OkCall.by_spec (field_14_4 h0 h1 hx14) [] (by decide) (by cbv) trivial ?_
  conv => cbv
  refine OkCall.by_spec (field_0_18 h0 h1 (v := l18) (by omega)) [] (by decide) (by cbv) trivial ?_
  conv => cbv
  refine OkCall.by_spec (field_0_22 h0 h1 (v := l22) (by omega)) [] (by decide) (by cbv) trivial ?_
  conv => cbv
  exact LeOut.two (LeOut.mk' [0] (by decide) rfl (by decide) (by cbv) (by cbv))
theorem apart_18 {w : Int} (h0 : 0 ≤ w) (h1 : w < 4294967296) (hk : w / 67108864 = 18) (hv : w % 262144 ≤ 31) (x22 x18 x14 l18 l22 l14 l26 : Int) (hx22 : w / 4194304 % 16 = x22) (hx18 : w / 262144 % 16 = x18) (hx14 : w / 16384 % 16 = x14) (hl18 : w % 262144 = l18) (hl22 : w % 4194304 = l22) (hl14 : w % 16384 = l14) (hl26 : w % 67108864 = l26) : Spec1 kit 32 [.i .u32 (.ex w)] [] false (.agg [.i .i64 (.lit 17), .i .i64 (.ex x22), .i .i64 (.ex x18), .i .i64 (.ex x14), .i .i64 (.ex l18)]) [] [] := by
  refine Spec1.mk2 rfl fun F => ?_
  refine into I32ok 6 ?_
  conv => cbv
  refine OkCall.by_spec (field_26_6 h0 h1 (v := 18) (by omega)) [] (by decide) (by cbv) trivial ?_
  conv => cbv
  refine Obs.int (.lit 17) (by show (17 : Int) = subI .i64 18 1; rw [subI_eq]; rfl) ?_
  conv => cbv
  refine OkCall.by_spec (field_22_4 h0 h1 hx22) [] (by decide) (by cbv) trivial ?_
  conv => cbv
  refine OkCall.by_spec (field_18_4 h0 h1 hx18) [] (by decide) (by cbv) trivial ?_
  conv => cbv
  refine OkCall.by_spec (field_14_4 h0 h1 hx14) [] (by decide) (by cbv) trivial ?_
  conv => cbv
  refine OkCall.by_spec (field_0_18 h0 h1 (v := l18) (by omega)) [] (by decide) (by cbv) trivial ?_
  conv => cbv
  refine OkCall.by_spec (field_0_22 h0 h1 (v := l22) (by omega)) [] (by decide) (by cbv) trivial ?_
  conv => cbv
  refine Br.no (by simp only [leafs, decide_eq_false_iff_not, decide_eq_true_eq]; omega) ?_
  conv => cbv
  exact LeOut.two (LeOut.mk' [0] (by decide) rfl (by decide) (by cbv) (by cbv))
theorem apart_18_bad {w : Int} (h0 : 0 ≤ w) (h1 : w < 4294967296) (hk : w / 67108864 = 18) (hv : 31 < w % 262144) (x22 x18 x14 l18 l22 l14 l26 : Int) (hx22 : w / 4194304 % 16 = x22) (hx18 : w / 262144 % 16 = x18) (hx14 : w / 16384 % 16 = x14) (hl18 : w % 262144 = l18) (hl22 : w % 4194304 = l22) (hl14 : w % 16384 = l14) (hl26 : w % 67108864 = l26) : Spec1 kit 32 [.i .u32 (.ex w)] [] false (.agg [.i .i64 (.lit (-1)), .i .i64 (.lit 0), .i .i64 (.lit 0), .i .i64 (.lit 0), .i .i64 (.lit 0)]) [] [] := by
  refine Spec1.mk2 rfl fun F => ?_
  refine into I32ok 6 ?_
  conv => cbv
  refine OkCall.by_spec (field_26_6 h0 h1 (v := 18) (by omega)) [] (by decide) (by cbv) trivial ?_
  conv => cbv
  refine Obs.int (.lit 17) (by show (17 : Int) = subI .i64 18 1; rw [subI_eq]; rfl) ?_
  conv => cbv
  refine OkCall.by_spec (field_22_4 h0 h1 hx22) [] (by decide) (by cbv) trivial ?_
  conv => cbv
  refine OkCall.by_spec (field_18_4 h0 h1 hx18) [] (by decide) (by cbv) trivial ?_
  conv => cbv
  refine OkCall.by_spec (field_14_4 h0 h1 hx14) [] (by decide) (by cbv) trivial ?_
  conv => cbv
  refine OkCall.by_spec (field_0_18 h0 h1 (v := l18) (by omega)) [] (by decide) (by cbv) trivial ?_
  conv => cbv
  refine OkCall.by_spec (field_0_22 h0 h1 (v := l22) (by omega)) [] (by decide) (by cbv) trivial ?_
  conv => cbv
  refine Br.yes (by simp only [leafs, decide_eq_false_iff_not, decide_eq_true_eq]; omega) ?_
  conv => cbv
  exact LeOut.two (LeOut.mk' [0] (by decide) rfl (by decide) (by cbv) (by cbv))
theorem apart_19 {w : Int} (h0 : 0 ≤ w) (h1 : w < 4294967296) (hk : w / 67108864 = 19) (hv : w % 262144 ≤ 31) (x22 x18 x14 l18 l22 l14 l26 : Int) (hx22 : w / 4194304 % 16 = x22) (hx18 : w / 262144 % 16 = x18) (hx14 : w / 16384 % 16 = x14) (hl18 : w % 262144 = l18) (hl22 : w % 4194304 = l22) (hl14 : w % 16384 = l14) (hl26 : w % 67108864 = l26) : Spec1 kit 32 [.i .u32 (.ex w)] [] false (.agg [.i .i64 (.lit 18), .i .i64 (.ex x22), .i .i64 (.ex x18), .i .i64 (.ex x14), .i .i64 (.ex l18)]) [] [] := by
  refine Spec1.mk2 rfl fun F => ?_
  refine into I32ok 6 ?_
  conv => cbv
  refine OkCall.by_spec (field_26_6 h0 h1 (v := 19) (by omega)) [] (by decide) (by cbv) trivial ?_
  conv => cbv
  refine Obs.int (.lit 18) (by show (18 : Int) = subI .i64 19 1; rw [subI_eq]; rfl) ?_
  conv => cbv
  refine OkCall.by_spec (field_22_4 h0 h1 hx22) [] (by decide) (by cbv) trivial ?_
  conv => cbv
  refine OkCall.by_spec (field_18_4 h0 h1 hx18) [] (by decide) (by cbv) trivial ?_
  conv => cbv
  refine OkCall.by_spec (field_14_4 h0 h1 hx14) [] (by decide) (by cbv) trivial ?_
  conv => cbv
  refine OkCall.by_spec (field_0_18 h0 h1 (v := l18) (by omega)) [] (by decide) (by cbv) trivial ?_
  conv => cbv
  refine OkCall.by_spec (field_0_22 h0 h1 (v := l22) (by omega)) [] (by decide) (by cbv) trivial ?_
  conv => cbv
  refine Br.no (by simp only [leafs, decide_eq_false_iff_not, decide_eq_true_eq]; omega) ?_
  conv => cbv
  exact LeOut.two (LeOut.mk' [0] (by decide) rfl (by decide) (by cbv) (by cbv))
theorem apart_19_bad {w : Int} (h0 : 0 ≤ w) (h1 : w < 4294967296) (hk : w / 67108864 = 19) (hv : 31 < w % 262144) (x22 x18 x14 l18 l22 l14 l26 : Int) (hx22 : w / 4194304 % 16 = x22) (hx18 : w / 262144 % 16 = x18) (hx14 : w / 16384 % 16 = x14) (hl18 : w % 262144 = l18) (hl22 : w % 4194304 = l22) (hl14 : w % 16384 = l14) (hl26 : w % 67108864 = l26) : Spec1 kit 32 [.i .u32 (.ex w)] [] false (.agg [.i .i64 (.lit (-1)), .i .i64 (.lit 0), .i .i64 (.lit 0), .i .i64 (.lit 0), .i .i64 (.lit 0)]) [] [] := by
  refine Spec1.mk2 rfl fun F => ?_
  refine into I32ok 6 ?_
  conv => cbv
  refine OkCall.by_spec (field_26_6 h0 h1 (v := 19) (by omega)) [] (by decide) (by cbv) trivial ?_
  conv => cbv
  refine Obs.int (.lit 18) (by show (18 : Int) = subI .i64 19 1; rw [subI_eq]; rfl) ?_
  conv => cbv
  refine OkCall.by_spec (field_22_4 h0 h1 hx22) [] (by decide) (by cbv) trivial ?_
  conv => cbv
  refine OkCall.by_spec (field_18_4 h0 h1 hx18) [] (by decide) (by cbv) trivial ?_
  conv => cbv
  refine OkCall.by_spec (field_14_4 h0 h1 hx14) [] (by decide) (by cbv) trivial ?_
  conv => cbv
  refine OkCall.by_spec (field_0_18 h0 h1 (v := l18) (by omega)) [] (by decide) (by cbv) trivial ?_
  conv => cbv
  refine OkCall.by_spec (field_0_22 h0 h1 (v := l22) (by omega)) [] (by decide) (by cbv) trivial ?_
  conv => cbv
  refine Br.yes (by simp only [leafs, decide_eq_false_iff_not, decide_eq_true_eq]; omega) ?_
  conv => cbv
  exact LeOut.two (LeOut.mk' [0] (by decide) rfl (by decide) (by cbv) (by cbv))
theorem apart_20 {w : Int} (h0 : 0 ≤ w) (h1 : w < 4294967296) (hk : w / 67108864 = 20) (hv : w % 262144 ≤ 31) (x22 x18 x14 l18 l22 l14 l26 : Int) (hx22 : w / 4194304 % 16 = x22) (hx18 : w / 262144 % 16 = x18) (hx14 : w / 16384 % 16 = x14) (hl18 : w % 262144 = l18) (hl22 : w % 4194304 = l22) (hl14 : w % 16384 = l14) (hl26 : w % 67108864 = l26) : Spec1 kit 32 [.i .u32 (.ex w)] [] false (.agg [.i .i64 (.lit 19), .i .i64 (.ex x22), .i .i64 (.ex x18), .i .i64 (.ex x14), .i .i64 (.ex l18)]) [] [] := by
  refine Spec1.mk2 rfl fun F => ?_
  refine into I32ok 6 ?_
  conv => cbv
  refine OkCall.by_spec (field_26_6 h0 h1 (v := 20) (by omega)) [] (by decide) (by cbv) trivial ?_
  conv => cbv
  refine Obs.int (.lit 19) (by show (19 : Int) = subI .i64 20 1; rw [subI_eq]; rfl) ?_
  conv => cbv
  refine OkCall.by_spec (field_22_4 h0 h1 hx22) [] (by decide) (by cbv) trivial ?_
  conv => cbv
  refine OkCall.by_spec (field_18_4 h0 h1 hx18) [] (by decide) (by cbv) trivial ?_
  conv => cbv
  refine OkCall.by_spec (field_14_4 h0 h1 hx14) [] (by decide) (by cbv) trivial ?_
  conv => cbv
  refine OkCall.by_spec (field_0_18 h0 h1 (v := l18) (by omega)) [] (by decide) (by cbv) trivial ?_
  conv => cbv
  refine OkCall.by_spec (field_0_22 h0 h1 (v := l22) (by omega)) [] (by decide) (by cbv) trivial ?_
  conv => cbv
  refine Br.no (by simp only [leafs, decide_eq_false_iff_not, decide_eq_true_eq]; omega) ?_
  conv => cbv
  exact LeOut.two (LeOut.mk' [0] (by decide) rfl (by decide) (by cbv) (by cbv))
theorem apart_20_bad {w : Int} (h0 : 0 ≤ w) (h1 : w < 4294967296) (hk : w / 67108864 = 20) (hv : 31 < w % 262144) (x22 x18 x14 l18 l22 l14 l26 : Int) (hx22 : w / 4194304 % 16 = x22) (hx18 : w / 262144 % 16 = x18) (hx14 : w / 16384 % 16 = x14) (hl18 : w % 262144 = l18) (hl22 : w % 4194304 = l22) (hl14 : w % 16384 = l14) (hl26 : w % 67108864 = l26) : Spec1 kit 32 [.i .u32 (.ex w)] [] false (.agg [.i .i64 (.lit (-1)), .i .i64 (.lit 0), .i .i64 (.lit 0), .i .i64 (.lit 0), .i .i64 (.lit 0)]) [] [] := by
  refine Spec1.mk2 rfl fun F => ?_
  refine into I32ok 6 ?_
  conv => cbv
  refine OkCall.by_spec (field_26_6 h0 h1 (v := 20) (by omega)) [] (by decide) (by cbv) trivial ?_
  conv => cbv
  refine Obs.int (.lit 19) (by show (19 : Int) = subI .i64 20 1; rw [subI_eq]; rfl) ?_
  conv => cbv
  refine OkCall.by_spec (field_22_4 h0 h1 hx22) [] (by decide) (by cbv) trivial ?_
  conv => cbv
  refine OkCall.by_spec (field_18_4 h0 h1 hx18) [] (by decide) (by cbv) trivial ?_
  conv => cbv
  refine OkCall.by_spec (field_14_4 h0 h1 hx14) [] (by decide) (by cbv) trivial ?_
  conv => cbv
  refine OkCall.by_spec (field_0_18 h0 h1 (v := l18) (by omega)) [] (by decide) (by cbv) trivial ?_
  conv => cbv
  refine OkCall.by_spec (field_0_22 h0 h1 (v := l22) (by omega)) [] (by decide) (by cbv) trivial ?_
  conv => cbv
  refine Br.yes (by simp only [leafs, decide_eq_false_iff_not, decide_eq_true_eq]; omega) ?_
  conv => cbv
  exact LeOut.two (LeOut.mk' [0] (by decide) rfl (by decide) (by cbv) (by cbv))
theorem apart_21 {w : Int} (h0 : 0 ≤ w) (h1 : w < 4294967296) (hk : w / 67108864 = 21) (i : Int) (hi : i = if 131072 ≤ w % 262144 then w % 262144 - 262144 else w % 262144) (x22 x18 x14 l18 l22 l14 l26 : Int) (hx22 : w / 4194304 % 16 = x22) (hx18 : w / 262144 % 16 = x18) (hx14 : w / 16384 % 16 = x14) (hl18 : w % 262144 = l18) (hl22 : w % 4194304 = l22) (hl14 : w % 16384 = l14) (hl26 : w % 67108864 = l26) : Spec1 kit 32 [.i .u32 (.ex w)] [] false (.agg [.i .i64 (.lit 20), .i .i64 (.ex x22), .i .i64 (.ex x18), .i .i64 (.ex x14), .i .i64 (.ex i)]) [] [] := by
  refine Spec1.mk2 rfl fun F => ?_
  refine into I32ok 6 ?_
  conv => cbv
  refine OkCall.by_spec (field_26_6 h0 h1 (v := 21) (by omega)) [] (by decide) (by cbv) trivial ?_
  conv => cbv
  refine Obs.int (.lit 20) (by show (20 : Int) = subI .i64 21 1; rw [subI_eq]; rfl) ?_
  conv => cbv
  refine OkCall.by_spec (field_22_4 h0 h1 hx22) [] (by decide) (by cbv) trivial ?_
  conv => cbv
  refine OkCall.by_spec (field_18_4 h0 h1 hx18) [] (by decide) (by cbv) trivial ?_
  conv => cbv
  refine OkCall.by_spec (field_14_4 h0 h1 hx14) [] (by decide) (by cbv) trivial ?_
  conv => cbv
  refine OkCall.by_spec (field_0_18 h0 h1 (v := l18) (by omega)) [] (by decide) (by cbv) trivial ?_
  conv => cbv
  refine OkCall.by_spec (field_0_22 h0 h1 (v := l22) (by omega)) [] (by decide) (by cbv) trivial ?_
  conv => cbv
  refine Br.mk (fun hc => ?_) (fun hc => ?_)
  · simp only [leafs, decide_eq_true_eq] at hc
    conv => cbv
    refine LeOut.two (LeOut.mk' [0] (by decide) rfl (by decide) ?_ (by cbv))
    conv => cbv
    refine ⟨?_, trivial⟩
    show i = subI .i64 l18 262144
    rw [subI_eq, IntWalk.i64_in _ (by omega), hi]; omega
  · simp only [leafs, decide_eq_false_iff_not] at hc
    conv => cbv
    refine LeOut.two (LeOut.mk' [0] (by decide) rfl (by decide) ?_ (by cbv))
    conv => cbv
    refine ⟨?_, trivial⟩
    show i = l18
    rw [hi]; omega
theorem apart_22 {w : Int} (h0 : 0 ≤ w) (h1 : w < 4294967296) (hk : w / 67108864 = 22) (i : Int) (hi : i = if 131072 ≤ w % 262144 then w % 262144 - 262144 else w % 262144) (x22 x18 x14 l18 l22 l14 l26 : Int) (hx22 : w / 4194304 % 16 = x22) (hx18 : w / 262144 % 16 = x18) (hx14 : w / 16384 % 16 = x14) (hl18 : w % 262144 = l18) (hl22 : w % 4194304 = l22) (hl14 : w % 16384 = l14) (hl26 : w % 67108864 = l26) : Spec1 kit 32 [.i .u32 (.ex w)] [] false (.agg [.i .i64 (.lit 21), .i .i64 (.ex x22), .i .i64 (.ex x18), .i .i64 (.ex x14), .i .i64 (.ex i)]) [] [] := by
  refine Spec1.mk2 rfl fun F => ?_
  refine into I32ok 6 ?_
  conv => cbv
  refine OkCall.by_spec (field_26_6 h0 h1 (v := 22) (by omega)) [] (by decide) (by cbv) trivial ?_
  conv => cbv
  refine Obs.int (.lit 21) (by show (21 : Int) = subI .i64 22 1; rw [subI_eq]; rfl) ?_
  conv => cbv
  refine OkCall.by_spec (field_22_4 h0 h1 hx22) [] (by decide) (by cbv) trivial ?_
  conv => cbv
  refine OkCall.by_spec (field_18_4 h0 h1 hx18) [] (by decide) (by cbv) trivial ?_
  conv => cbv
  refine OkCall.by_spec (field_14_4 h0 h1 hx14) [] (by decide) (by cbv) trivial ?_
  conv => cbv
  refine OkCall.by_spec (field_0_18 h0 h1 (v := l18) (by omega)) [] (by decide) (by cbv) trivial ?_
  conv => cbv
  refine OkCall.by_spec (field_0_22 h0 h1 (v := l22) (by omega)) [] (by decide) (by cbv) trivial ?_
  conv => cbv
  refine Br.mk (fun hc => ?_) (fun hc => ?_)
  · simp only [leafs, decide_eq_true_eq] at hc
    conv => cbv
    refine LeOut.two (LeOut.mk' [0] (by decide) rfl (by decide) ?_ (by cbv))
    conv => cbv
    refine ⟨?_, trivial⟩
    show i = subI .i64 l18 262144
    rw [subI_eq, IntWalk.i64_in _ (by omega), hi]; omega
  · simp only [leafs, decide_eq_false_iff_not] at hc
    conv => cbv
    refine LeOut.two (LeOut.mk' [0] (by decide) rfl (by decide) ?_ (by cbv))
    conv => cbv
    refine ⟨?_, trivial⟩
    show i = l18
    rw [hi]; omega
theorem apart_23 {w : Int} (h0 : 0 ≤ w) (h1 : w < 4294967296) (hk : w / 67108864 = 23) (hv : w % 4194304 < 262144) (x22 x18 x14 l18 l22 l14 l26 : Int) (hx22 : w / 4194304 % 16 = x22) (hx18 : w / 262144 % 16 = x18) (hx14 : w / 16384 % 16 = x14) (hl18 : w % 262144 = l18) (hl22 : w % 4194304 = l22) (hl14 : w % 16384 = l14) (hl26 : w % 67108864 = l26) : Spec1 kit 32 [.i .u32 (.ex w)] [] false (.agg [.i .i64 (.lit 22), .i .i64 (.ex x22), .i .i64 (.ex x18), .i .i64 (.ex x14), .i .i64 (.ex l22)]) [] [] := by
  refine Spec1.mk2 rfl fun F => ?_
  refine into I32ok 6 ?_
  conv => cbv
  refine OkCall.by_spec (field_26_6 h0 h1 (v := 23) (by omega)) [] (by decide) (by cbv) trivial ?_
  conv => cbv
  refine Obs.int (.lit 22) (by show (22 : Int) = subI .i64 23 1; rw [subI_eq]; rfl) ?_
  conv => cbv
  refine OkCall.by_spec (field_22_4 h0 h1 hx22) [] (by decide) (by cbv) trivial ?_
  conv => cbv
  refine OkCall.by_spec (field_18_4 h0 h1 hx18) [] (by decide) (by cbv) trivial ?_
  conv => cbv
  refine OkCall.by_spec (field_14_4 h0 h1 hx14) [] (by decide) (by cbv) trivial ?_
  conv => cbv
  refine OkCall.by_spec (field_0_18 h0 h1 (v := l18) (by omega)) [] (by decide) (by cbv) trivial ?_
  conv => cbv
  refine OkCall.by_spec (field_0_22 h0 h1 (v := l22) (by omega)) [] (by decide) (by cbv) trivial ?_
  conv => cbv
  refine Br.no (by simp only [leafs, decide_eq_false_iff_not, decide_eq_true_eq]; omega) ?_
  conv => cbv
  exact LeOut.two (LeOut.mk' [0] (by decide) rfl (by decide) (by cbv) (by cbv))
theorem apart_23_bad {w : Int} (h0 : 0 ≤ w) (h1 : w < 4294967296) (hk : w / 67108864 = 23) (hv : 262144 ≤ w % 4194304) (x22 x18 x14 l18 l22 l14 l26 : Int) (hx22 : w / 4194304 % 16 = x22) (hx18 : w / 262144 % 16 = x18) (hx14 : w / 16384 % 16 = x14) (hl18 : w % 262144 = l18) (hl22 : w % 4194304 = l22) (hl14 : w % 16384 = l14) (hl26 : w % 67108864 = l26) : Spec1 kit 32 [.i .u32 (.ex w)] [] false (.agg [.i .i64 (.lit (-1)), .i .i64 (.lit 0), .i .i64 (.lit 0), .i .i64 (.lit 0), .i .i64 (.lit 0)]) [] [] := by
  refine Spec1.mk2 rfl fun F => ?_
  refine into I32ok 6 ?_
  conv => cbv
  refine OkCall.by_spec (field_26_6 h0 h1 (v := 23) (by omega)) [] (by decide) (by cbv) trivial ?_
  conv => cbv
  refine Obs.int (.lit 22) (by show (22 : Int) = subI .i64 23 1; rw [subI_eq]; rfl) ?_
  conv => cbv
  refine OkCall.by_spec (field_22_4 h0 h1 hx22) [] (by decide) (by cbv) trivial ?_
  conv => cbv
  refine OkCall.by_spec (field_18_4 h0 h1 hx18) [] (by decide) (by cbv) trivial ?_
  conv => cbv
  refine OkCall.by_spec (field_14_4 h0 h1 hx14) [] (by decide) (by cbv) trivial ?_
  conv => cbv
  refine OkCall.by_spec (field_0_18 h0 h1 (v := l18) (by omega)) [] (by decide) (by cbv) trivial ?_
  conv => cbv
  refine OkCall.by_spec (field_0_22 h0 h1 (v := l22) (by omega)) [] (by decide) (by cbv) trivial ?_
  conv => cbv
  refine Br.yes (by simp only [leafs, decide_eq_false_iff_not, decide_eq_true_eq]; omega) ?_
  conv => cbv
  exact LeOut.two (LeOut.mk' [0] (by decide) rfl (by decide) (by cbv) (by cbv))
theorem apart_24 {w : Int} (h0 : 0 ≤ w) (h1 : w < 4294967296) (hk : w / 67108864 = 24) (i : Int) (hi : i = if 131072 ≤ w % 262144 then w % 262144 - 262144 else w % 262144) (x22 x18 x14 l18 l22 l14 l26 : Int) (hx22 : w / 4194304 % 16 = x22) (hx18 : w / 262144 % 16 = x18) (hx14 : w / 16384 % 16 = x14) (hl18 : w % 262144 = l18) (hl22 : w % 4194304 = l22) (hl14 : w % 16384 = l14) (hl26 : w % 67108864 = l26) : Spec1 kit 32 [.i .u32 (.ex w)] [] false (.agg [.i .i64 (.lit 23), .i .i64 (.ex x22), .i .i64 (.ex x18), .i .i64 (.ex x14), .i .i64 (.ex i)]) [] [] := by
  refine Spec1.mk2 rfl fun F => ?_
  refine into I32ok 6 ?_
  conv => cbv
  refine OkCall.by_spec (field_26_6 h0 h1 (v := 24) (by omega)) [] (by decide) (by cbv) trivial ?_
  conv => cbv
  refine Obs.int (.lit 23) (by show (23 : Int) = subI .i64 24 1; rw [subI_eq]; rfl) ?_
  conv => cbv
  refine OkCall.by_spec (field_22_4 h0 h1 hx22) [] (by decide) (by cbv) trivial ?_
  conv => cbv
  refine OkCall.by_spec (field_18_4 h0 h1 hx18) [] (by decide) (by cbv) trivial ?_
  conv => cbv
  refine OkCall.by_spec (field_14_4 h0 h1 hx14) [] (by decide) (by cbv) trivial ?_
  conv => cbv
  refine OkCall.by_spec (field_0_18 h0 h1 (v := l18) (by omega)) [] (by decide) (by cbv) trivial ?_
  conv => cbv
  refine OkCall.by_spec (field_0_22 h0 h1 (v := l22) (by omega)) [] (by decide) (by cbv) trivial ?_
  conv => cbv
  refine Br.mk (fun hc => ?_) (fun hc => ?_)
  · simp only [leafs, decide_eq_true_eq] at hc
    conv => cbv
    refine LeOut.two (LeOut.mk' [0] (by decide) rfl (by decide) ?_ (by cbv))
    conv => cbv
    refine ⟨?_, trivial⟩
    show i = subI .i64 l18 262144
    rw [subI_eq, IntWalk.i64_in _ (by omega), hi]; omega
  · simp only [leafs, decide_eq_false_iff_not] at hc
    conv => cbv
    refine LeOut.two (LeOut.mk' [0] (by decide) rfl (by decide) ?_ (by cbv))
    conv => cbv
    refine ⟨?_, trivial⟩
    show i = l18
    rw [hi]; omega
theorem apart_25 {w : Int} (h0 : 0 ≤ w) (h1 : w < 4294967296) (hk : w / 67108864 = 25) (i : Int) (hi : i = if 131072 ≤ w % 262144 then w % 262144 - 262144 else w % 262144) (x22 x18 x14 l18 l22 l14 l26 : Int) (hx22 : w / 4194304 % 16 = x22) (hx18 : w / 262144 % 16 = x18) (hx14 : w / 16384 % 16 = x14) (hl18 : w % 262144 = l18) (hl22 : w % 4194304 = l22) (hl14 : w % 16384 = l14) (hl26 : w % 67108864 = l26) : Spec1 kit 32 [.i .u32 (.ex w)] [] false (.agg [.i .i64 (.lit 24), .i .i64 (.ex x22), .i .i64 (.ex x18), .i .i64 (.ex x14), .i .i64 (.ex i)]) [] [] := by
  refine Spec1.mk2 rfl fun F => ?_
  refine into I32ok 6 ?_
  conv => cbv
  refine OkCall.by_spec (field_26_6 h0 h1 (v := 25) (by omega)) [] (by decide) (by cbv) trivial ?_
  conv => cbv
  refine Obs.int (.lit 24) (by show (24 : Int) = subI .i64 25 1; rw [subI_eq]; rfl) ?_
  conv => cbv
  refine OkCall.by_spec (field_22_4 h0 h1 hx22) [] (by decide) (by cbv) trivial ?_
  conv => cbv
  refine OkCall.by_spec (field_18_4 h0 h1 hx18) [] (by decide) (by cbv) trivial ?_
  conv => cbv
  refine OkCall.by_spec (field_14_4 h0 h1 hx14) [] (by decide) (by cbv) trivial ?_
  conv => cbv
  refine OkCall.by_spec (field_0_18 h0 h1 (v := l18) (by omega)) [] (by decide) (by cbv) trivial ?_
  conv => cbv
  refine OkCall.by_spec (field_0_22 h0 h1 (v := l22) (by omega)) [] (by decide) (by cbv) trivial ?_
  conv => cbv
  refine Br.mk (fun hc => ?_) (fun hc => ?_)
  · simp only [leafs, decide_eq_true_eq] at hc
    conv => cbv
    refine LeOut.two (LeOut.mk' [0] (by decide) rfl (by decide) ?_ (by cbv))
    conv => cbv
    refine ⟨?_, trivial⟩
    show i = subI .i64 l18 262144
    rw [subI_eq, IntWalk.i64_in _ (by omega), hi]; omega
  · simp only [leafs, decide_eq_false_iff_not] at hc
    conv => cbv
    refine LeOut.two (LeOut.mk' [0] (by decide) rfl (by decide) ?_ (by cbv))
    conv => cbv
    refine ⟨?_, trivial⟩
    show i = l18
    rw [hi]; omega
theorem apart_26 {w : Int} (h0 : 0 ≤ w) (h1 : w < 4294967296) (hk : w / 67108864 = 26) (i : Int) (hi : i = if 131072 ≤ w % 262144 then w % 262144 - 262144 else w % 262144) (x22 x18 x14 l18 l22 l14 l26 : Int) (hx22 : w / 4194304 % 16 = x22) (hx18 : w / 262144 % 16 = x18) (hx14 : w / 16384 % 16 = x14) (hl18 : w % 262144 = l18) (hl22 : w % 4194304 = l22) (hl14 : w % 16384 = l14) (hl26 : w % 67108864 = l26) : Spec1 kit 32 [.i .u32 (.ex w)] [] false (.agg [.i .i64 (.lit 25), .i .i64 (.ex x22), .i .i64 (.ex x18), .i .i64 (.ex x14), .i .i64 (.ex i)]) [] [] := by
  refine Spec1.mk2 rfl fun F => ?_
  refine into I32ok 6 ?_
  conv => cbv
  refine OkCall.by_spec (field_26_6 h0 h1 (v := 26) (by omega)) [] (by decide) (by cbv) trivial ?_
  conv => cbv
  refine Obs.int (.lit 25) (by show (25 : Int) = subI .i64 26 1; rw [subI_eq]; rfl) ?_
  conv => cbv
  refine OkCall.by_spec (field_22_4 h0 h1 hx22) [] (by decide) (by cbv) trivial ?_
  conv => cbv
  refine OkCall.by_spec (field_18_4 h0 h1 hx18) [] (by decide) (by cbv) trivial ?_
  conv => cbv
  refine OkCall.by_spec (field_14_4 h0 h1 hx14) [] (by decide) (by cbv) trivial ?_
  conv => cbv
  refine OkCall.by_spec (field_0_18 h0 h1 (v := l18) (by omega)) [] (by decide) (by cbv) trivial ?_
  conv => cbv
  refine OkCall.by_spec (field_0_22 h0 h1 (v := l22) (by omega)) [] (by decide) (by cbv) trivial ?_
  conv => cbv
  refine Br.mk (fun hc => ?_) (fun hc => ?_)
  · simp only [leafs, decide_eq_true_eq] at hc
    conv => cbv
    refine LeOut.two (LeOut.mk' [0] (by decide) rfl (by decide) ?_ (by cbv))
    conv => cbv
    refine ⟨?_, trivial⟩
    show i = subI .i64 l18 262144
    rw [subI_eq, IntWalk.i64_in _ (by omega), hi]; omega
  · simp only [leafs, decide_eq_false_iff_not] at hc
    conv => cbv
    refine LeOut.two (LeOut.mk' [0] (by decide) rfl (by decide) ?_ (by cbv))
    conv => cbv
    refine ⟨?_, trivial⟩
    show i = l18
    rw [hi]; omega
theorem apart_27 {w : Int} (h0 : 0 ≤ w) (h1 : w < 4294967296) (hk : w / 67108864 = 27) (i : Int) (hi : i = if 131072 ≤ w % 262144 then w % 262144 - 262144 else w % 262144) (x22 x18 x14 l18 l22 l14 l26 : Int) (hx22 : w / 4194304 % 16 = x22) (hx18 : w / 262144 % 16 = x18) (hx14 : w / 16384 % 16 = x14) (hl18 : w % 262144 = l18) (hl22 : w % 4194304 = l22) (hl14 : w % 16384 = l14) (hl26 : w % 67108864 = l26) : Spec1 kit 32 [.i .u32 (.ex w)] [] false (.agg [.i .i64 (.lit 26), .i .i64 (.ex x22), .i .i64 (.ex x18), .i .i64 (.ex x14), .i .i64 (.ex i)]) [] [] := by
  refine Spec1.mk2 rfl fun F => ?_
  refine into I32ok 6 ?_
  conv => cbv
  refine OkCall.by_spec (field_26_6 h0 h1 (v := 27) (by omega)) [] (by decide) (by cbv) trivial ?_
  conv => cbv
  refine Obs.int (.lit 26) (by show (26 : Int) = subI .i64 27 1; rw [subI_eq]; rfl) ?_
  conv => cbv
  refine OkCall.by_spec (field_22_4 h0 h1 hx22) [] (by decide) (by cbv) trivial ?_
  conv => cbv
  refine OkCall.by_spec (field_18_4 h0 h1 hx18) [] (by decide) (by cbv) trivial ?_
  conv => cbv
  refine OkCall.by_spec (field_14_4 h0 h1 hx14) [] (by decide) (by cbv) trivial ?_
  conv => cbv
  refine OkCall.by_spec (field_0_18 h0 h1 (v := l18) (by omega)) [] (by decide) (by cbv) trivial ?_
  conv => cbv
  refine OkCall.by_spec (field_0_22 h0 h1 (v := l22) (by omega)) [] (by decide) (by cbv) trivial ?_
  conv => cbv
  refine Br.mk (fun hc => ?_) (fun hc => ?_)
  · simp only [leafs, decide_eq_true_eq] at hc
    conv => cbv
    refine LeOut.two (LeOut.mk' [0] (by decide) rfl (by decide) ?_ (by cbv))
    conv => cbv
    refine ⟨?_, trivial⟩
    show i = subI .i64 l18 262144
    rw [subI_eq, IntWalk.i64_in _ (by omega), hi]; omega
  · simp only [leafs, decide_eq_false_iff_not] at hc
    conv => cbv
    refine LeOut.two (LeOut.mk' [0] (by decide) rfl (by decide) ?_ (by cbv))
    conv => cbv
    refine ⟨?_, trivial⟩
    show i = l18
    rw [hi]; omega
theorem apart_28 {w : Int} (h0 : 0 ≤ w) (h1 : w < 4294967296) (hk : w / 67108864 = 28) (i : Int) (hi : i = if 131072 ≤ w % 262144 then w % 262144 - 262144 else w % 262144) (x22 x18 x14 l18 l22 l14 l26 : Int) (hx22 : w / 4194304 % 16 = x22) (hx18 : w / 262144 % 16 = x18) (hx14 : w / 16384 % 16 = x14) (hl18 : w % 262144 = l18) (hl22 : w % 4194304 = l22) (hl14 : w % 16384 = l14) (hl26 : w % 67108864 = l26) : Spec1 kit 32 [.i .u32 (.ex w)] [] false (.agg [.i .i64 (.lit 27), .i .i64 (.ex x22), .i .i64 (.ex x18), .i .i64 (.ex x14), .i .i64 (.ex i)]) [] [] := by
  refine Spec1.mk2 rfl fun F => ?_
  refine into I32ok 6 ?_
  conv => cbv
  refine OkCall.by_spec (field_26_6 h0 h1 (v := 28) (by omega)) [] (by decide) (by cbv) trivial ?_
  conv => cbv
  refine Obs.int (.lit 27) (by show (27 : Int) = subI .i64 28 1; rw [subI_eq]; rfl) ?_
  conv => cbv
  refine OkCall.by_spec (field_22_4 h0 h1 hx22) [] (by decide) (by cbv) trivial ?_
  conv => cbv
  refine OkCall.by_spec (field_18_4 h0 h1 hx18) [] (by decide) (by cbv) trivial ?_
  conv => cbv
  refine OkCall.by_spec (field_14_4 h0 h1 hx14) [] (by decide) (by cbv) trivial ?_
  conv => cbv
  refine OkCall.by_spec (field_0_18 h0 h1 (v := l18) (by omega)) [] (by decide) (by cbv) trivial ?_
  conv => cbv
  refine OkCall.by_spec (field_0_22 h0 h1 (v := l22) (by omega)) [] (by decide) (by cbv) trivial ?_
  conv => cbv
  refine Br.mk (fun hc => ?_) (fun hc => ?_)
  · simp only [leafs, decide_eq_true_eq] at hc
    conv => cbv
    refine LeOut.two (LeOut.mk' [0] (by decide) rfl (by decide) ?_ (by cbv))
    conv => cbv
    refine ⟨?_, trivial⟩
    show i = subI .i64 l18 262144
    rw [subI_eq, IntWalk.i64_in _ (by omega), hi]; omega
  · simp only [leafs, decide_eq_false_iff_not] at hc
    conv => cbv
    refine LeOut.two (LeOut.mk' [0] (by decide) rfl (by decide) ?_ (by cbv))
    conv => cbv
    refine ⟨?_, trivial⟩
    show i = l18
    rw [hi]; omega
theorem apart_29 {w : Int} (h0 : 0 ≤ w) (h1 : w < 4294967296) (hk : w / 67108864 = 29) (i : Int) (hi : i = if 131072 ≤ w % 262144 then w % 262144 - 262144 else w % 262144) (x22 x18 x14 l18 l22 l14 l26 : Int) (hx22 : w / 4194304 % 16 = x22) (hx18 : w / 262144 % 16 = x18) (hx14 : w / 16384 % 16 = x14) (hl18 : w % 262144 = l18) (hl22 : w % 4194304 = l22) (hl14 : w % 16384 = l14) (hl26 : w % 67108864 = l26) : Spec1 kit 32 [.i .u32 (.ex w)] [] false (.agg [.i .i64 (.lit 28), .i .i64 (.ex x22), .i .i64 (.ex x18), .i .i64 (.ex x14), .i .i64 (.ex i)]) [] [] := by
  refine Spec1.mk2 rfl fun F => ?_
  refine into I32ok 6 ?_
  conv => cbv
  refine OkCall.by_spec (field_26_6 h0 h1 (v := 29) (by omega)) [] (by decide) (by cbv) trivial ?_
  conv => cbv
  refine Obs.int (.lit 28) (by show (28 : Int) = subI .i64 29 1; rw [subI_eq]; rfl) ?_
  conv => cbv
  refine OkCall.by_spec (field_22_4 h0 h1 hx22) [] (by decide) (by cbv) trivial ?_
  conv => cbv
  refine OkCall.by_spec (field_18_4 h0 h1 hx18) [] (by decide) (by cbv) trivial ?_
  conv => cbv
  refine OkCall.by_spec (field_14_4 h0 h1 hx14) [] (by decide) (by cbv) trivial ?_
  conv => cbv
  refine OkCall.by_spec (field_0_18 h0 h1 (v := l18) (by omega)) [] (by decide) (by cbv) trivial ?_
  conv => cbv
  refine OkCall.by_spec (field_0_22 h0 h1 (v := l22) (by omega)) [] (by decide) (by cbv) trivial ?_
  conv => cbv
  refine Br.mk (fun hc => ?_) (fun hc => ?_)
  · simp only [leafs, decide_eq_true_eq] at hc
    conv => cbv
    refine LeOut.two (LeOut.mk' [0] (by decide) rfl (by decide) ?_ (by cbv))
    conv => cbv
    refine ⟨?_, trivial⟩
    show i = subI .i64 l18 262144
    rw [subI_eq, IntWalk.i64_in _ (by omega), hi]; omega
  · simp only [leafs, decide_eq_false_iff_not] at hc
    conv => cbv
    refine LeOut.two (LeOut.mk' [0] (by decide) rfl (by decide) ?_ (by cbv))
    conv => cbv
    refine ⟨?_, trivial⟩
    show i = l18
    rw [hi]; omega
theorem apart_30 {w : Int} (h0 : 0 ≤ w) (h1 : w < 4294967296) (hk : w / 67108864 = 30) (i : Int) (hi : i = if 131072 ≤ w % 262144 then w % 262144 - 262144 else w % 262144) (x22 x18 x14 l18 l22 l14 l26 : Int) (hx22 : w / 4194304 % 16 = x22) (hx18 : w / 262144 % 16 = x18) (hx14 : w / 16384 % 16 = x14) (hl18 : w % 262144 = l18) (hl22 : w % 4194304 = l22) (hl14 : w % 16384 = l14) (hl26 : w % 67108864 = l26) : Spec1 kit 32 [.i .u32 (.ex w)] [] false (.agg [.i .i64 (.lit 29), .i .i64 (.ex x22), .i .i64 (.ex x18), .i .i64 (.ex x14), .i .i64 (.ex i)]) [] [] := by
  refine Spec1.mk2 rfl fun F => ?_
  refine into I32ok 6 ?_
  conv => cbv
  refine OkCall.by_spec (field_26_6 h0 h1 (v := 30) (by omega)) [] (by decide) (by cbv) trivial ?_
  conv => cbv
  refine Obs.int (.lit 29) (by show (29 : Int) = subI .i64 30 1; rw [subI_eq]; rfl) ?_
  conv => cbv
  refine OkCall.by_spec (field_22_4 h0 h1 hx22) [] (by decide) (by cbv) trivial ?_
  conv => cbv
  refine OkCall.by_spec (field_18_4 h0 h1 hx18) [] (by decide) (by cbv) trivial ?_
  conv => cbv
  refine OkCall.by_spec (field_14_4 h0 h1 hx14) [] (by decide) (by cbv) trivial ?_
  conv => cbv
  refine OkCall.by_spec (field_0_18 h0 h1 (v := l18) (by omega)) [] (by decide) (by cbv) trivial ?_
  conv => cbv
  refine OkCall.by_spec (field_0_22 h0 h1 (v := l22) (by omega)) [] (by decide) (by cbv) trivial ?_
  conv => cbv
  refine Br.mk (fun hc => ?_) (fun hc => ?_)
  · simp only [leafs, decide_eq_true_eq] at hc
    conv => cbv
    refine LeOut.two (LeOut.mk' [0] (by decide) rfl (by decide) ?_ (by cbv))
    conv => cbv
    refine ⟨?_, trivial⟩
    show i = subI .i64 l18 262144
    rw [subI_eq, IntWalk.i64_in _ (by omega), hi]; omega
  · simp only [leafs, decide_eq_false_iff_not] at hc
    conv => cbv
    refine LeOut.two (LeOut.mk' [0] (by decide) rfl (by decide) ?_ (by cbv))
    conv => cbv
    refine ⟨?_, trivial⟩
    show i = l18
    rw [hi]; omega
theorem apart_31 {w : Int} (h0 : 0 ≤ w) (h1 : w < 4294967296) (hk : w / 67108864 = 31) (i : Int) (hi : i = if 131072 ≤ w % 262144 then w % 262144 - 262144 else w % 262144) (x22 x18 x14 l18 l22 l14 l26 : Int) (hx22 : w / 4194304 % 16 = x22) (hx18 : w / 262144 % 16 = x18) (hx14 : w / 16384 % 16 = x14) (hl18 : w % 262144 = l18) (hl22 : w % 4194304 = l22) (hl14 : w % 16384 = l14) (hl26 : w % 67108864 = l26) : Spec1 kit 32 [.i .u32 (.ex w)] [] false (.agg [.i .i64 (.lit 30), .i .i64 (.ex x22), .i .i64 (.ex x18), .i .i64 (.ex x14), .i .i64 (.ex i)]) [] [] := by
  refine Spec1.mk2 rfl fun F => ?_
  refine into I32ok 6 ?_
  conv => cbv
  refine OkCall.by_spec (field_26_6 h0 h1 (v := 31) (by omega)) [] (by decide) (by cbv) trivial ?_
  conv => cbv
  refine Obs.int (.lit 30) (by show (30 : Int) = subI .i64 31 1; rw [subI_eq]; rfl) ?_
  conv => cbv
  refine OkCall.by_spec (field_22_4 h0 h1 hx22) [] (by decide) (by cbv) trivial ?_
  conv => cbv
  refine OkCall.by_spec (field_18_4 h0 h1 hx18) [] (by decide) (by cbv) trivial ?_
  conv => cbv
  refine OkCall.by_spec (field_14_4 h0 h1 hx14) [] (by decide) (by cbv) trivial ?_
  conv => cbv
  refine OkCall.by_spec (field_0_18 h0 h1 (v := l18) (by omega)) [] (by decide) (by cbv) trivial ?_
  conv => cbv
  refine OkCall.by_spec (field_0_22 h0 h1 (v := l22) (by omega)) [] (by decide) (by cbv) trivial ?_
  conv => cbv
  refine Br.mk (fun hc => ?_) (fun hc => ?_)
  · simp only [leafs, decide_eq_true_eq] at hc
    conv => cbv
    refine LeOut.two (LeOut.mk' [0] (by decide) rfl (by decide) ?_ (by cbv))
    conv => cbv
    refine ⟨?_, trivial⟩
    show i = subI .i64 l18 262144
    rw [subI_eq, IntWalk.i64_in _ (by omega), hi]; omega
  · simp only [leafs, decide_eq_false_iff_not] at hc
    conv => cbv
    refine LeOut.two (LeOut.mk' [0] (by decide) rfl (by decide) ?_ (by cbv))
    conv => cbv
    refine ⟨?_, trivial⟩
    show i = l18
    rw [hi]; omega
theorem apart_32 {w : Int} (h0 : 0 ≤ w) (h1 : w < 4294967296) (hk : w / 67108864 = 32) (i : Int) (hi : i = if 131072 ≤ w % 262144 then w % 262144 - 262144 else w % 262144) (x22 x18 x14 l18 l22 l14 l26 : Int) (hx22 : w / 4194304 % 16 = x22) (hx18 : w / 262144 % 16 = x18) (hx14 : w / 16384 % 16 = x14) (hl18 : w % 262144 = l18) (hl22 : w % 4194304 = l22) (hl14 : w % 16384 = l14) (hl26 : w % 67108864 = l26) : Spec1 kit 32 [.i .u32 (.ex w)] [] false (.agg [.i .i64 (.lit 31), .i .i64 (.ex x22), .i .i64 (.ex x18), .i .i64 (.ex x14), .i .i64 (.ex i)]) [] [] := by
  refine Spec1.mk2 rfl fun F => ?_
  refine into I32ok 6 ?_
  conv => cbv
  refine OkCall.by_spec (field_26_6 h0 h1 (v := 32) (by omega)) [] (by decide) (by cbv) trivial ?_
  conv => cbv
  refine Obs.int (.lit 31) (by show (31 : Int) = subI .i64 32 1; rw [subI_eq]; rfl) ?_
  conv => cbv
  refine OkCall.by_spec (field_22_4 h0 h1 hx22) [] (by decide) (by cbv) trivial ?_
  conv => cbv
  refine OkCall.by_spec (field_18_4 h0 h1 hx18) [] (by decide) (by cbv) trivial ?_
  conv => cbv
  refine OkCall.by_spec (field_14_4 h0 h1 hx14) [] (by decide) (by cbv) trivial ?_
  conv => cbv
  refine OkCall.by_spec (field_0_18 h0 h1 (v := l18) (by omega)) [] (by decide) (by cbv) trivial ?_
  conv => cbv
  refine OkCall.by_spec (field_0_22 h0 h1 (v := l22) (by omega)) [] (by decide) (by cbv) trivial ?_
  conv => cbv
  refine Br.mk (fun hc => ?_) (fun hc => ?_)
  · simp only [leafs, decide_eq_true_eq] at hc
    conv => cbv
    refine LeOut.two (LeOut.mk' [0] (by decide) rfl (by decide) ?_ (by cbv))
    conv => cbv
    refine ⟨?_, trivial⟩
    show i = subI .i64 l18 262144
    rw [subI_eq, IntWalk.i64_in _ (by omega), hi]; omega
  · simp only [leafs, decide_eq_false_iff_not] at hc
    conv => cbv
    refine LeOut.two (LeOut.mk' [0] (by decide) rfl (by decide) ?_ (by cbv))
    conv => cbv
    refine ⟨?_, trivial⟩
    show i = l18
    rw [hi]; omega
theorem apart_33 {w : Int} (h0 : 0 ≤ w) (h1 : w < 4294967296) (hk : w / 67108864 = 33) (i : Int) (hi : i = if 131072 ≤ w % 262144 then w % 262144 - 262144 else w % 262144) (x22 x18 x14 l18 l22 l14 l26 : Int) (hx22 : w / 4194304 % 16 = x22) (hx18 : w / 262144 % 16 = x18) (hx14 : w / 16384 % 16 = x14) (hl18 : w % 262144 = l18) (hl22 : w % 4194304 = l22) (hl14 : w % 16384 = l14) (hl26 : w % 67108864 = l26) : Spec1 kit 32 [.i .u32 (.ex w)] [] false (.agg [.i .i64 (.lit 32), .i .i64 (.ex x22), .i .i64 (.ex x18), .i .i64 (.ex x14), .i .i64 (.ex i)]) [] [] := by
  refine Spec1.mk2 rfl fun F => ?_
  refine into I32ok 6 ?_
  conv => cbv
  refine OkCall.by_spec (field_26_6 h0 h1 (v := 33) (by omega)) [] (by decide) (by cbv) trivial ?_
  conv => cbv
  refine Obs.int (.lit 32) (by show (32 : Int) = subI .i64 33 1; rw [subI_eq]; rfl) ?_
  conv => cbv
  refine OkCall.by_spec (field_22_4 h0 h1 hx22) [] (by decide) (by cbv) trivial ?_
  conv => cbv
  refine OkCall.by_spec (field_18_4 h0 h1 hx18) [] (by decide) (by cbv) trivial ?_
  conv => cbv
  refine OkCall.by_spec (field_14_4 h0 h1 hx14) [] (by decide) (by cbv) trivial ?_
  conv => cbv
  refine OkCall.by_spec (field_0_18 h0 h1 (v := l18) (by omega)) [] (by decide) (by cbv) trivial ?_
  conv => cbv
  refine OkCall.by_spec (field_0_22 h0 h1 (v := l22) (by omega)) [] (by decide) (by cbv) trivial ?_
  conv => cbv
  refine Br.mk (fun hc => ?_) (fun hc => ?_)
  · simp only [leafs, decide_eq_true_eq] at hc
    conv => cbv
    refine LeOut.two (LeOut.mk' [0] (by decide) rfl (by decide) ?_ (by cbv))
    conv => cbv
    refine ⟨?_, trivial⟩
    show i = subI .i64 l18 262144
    rw [subI_eq, IntWalk.i64_in _ (by omega), hi]; omega
  · simp only [leafs, decide_eq_false_iff_not] at hc
    conv => cbv
    refine LeOut.two (LeOut.mk' [0] (by decide) rfl (by decide) ?_ (by cbv))
    conv => cbv
    refine ⟨?_, trivial⟩
    show i = l18
    rw [hi]; omega
end Go.Proofs.YtkljgpepogkgdaaDoor
