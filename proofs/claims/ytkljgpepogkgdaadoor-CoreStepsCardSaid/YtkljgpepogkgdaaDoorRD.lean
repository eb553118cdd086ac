/-
  The document's Apart, op by op.
-/
import Derived.Test.YtkljgpepogkgdaaDoorRA
set_option linter.unusedVariables false
set_option linter.unusedSimpArgs false
namespace Go.Proofs.YtkljgpepogkgdaaDoor
open Go Go.Vex
set_option maxRecDepth 20000
set_option maxHeartbeats 4000000

theorem apart_34 {w : Int} (h0 : 0 ≤ w) (h1 : w < 4294967296) (hk : w / 67108864 = 34) (i : Int) (hi : i = if 131072 ≤ w % 262144 then w % 262144 - 262144 else w % 262144) (x22 x18 x14 l18 l22 l14 l26 : Int) (hx22 : w / 4194304 % 16 = x22) (hx18 : w / 262144 % 16 = x18) (hx14 : w / 16384 % 16 = x14) (hl18 : w % 262144 = l18) (hl22 : w % 4194304 = l22) (hl14 : w % 16384 = l14) (hl26 : w % 67108864 = l26) : Spec1 kit 32 [.i .u32 (.ex w)] [] false (.agg [.i .i64 (.lit 33), .i .i64 (.ex x22), .i .i64 (.ex x18), .i .i64 (.ex x14), .i .i64 (.ex i)]) [] [] := by
  refine Spec1.mk2 rfl fun F => ?_
  refine into I32ok 6 ?_
  conv => cbv
  refine OkCall.by_spec (field_26_6 h0 h1 (v := 34) (by omega)) [] (by decide) (by cbv) trivial ?_
  conv => cbv
  refine Obs.int (.lit 33) (by show (33 : Int) = subI .i64 34 1; rw [subI_eq]; rfl) ?_
  conv => cbv
  refine OkCall.by_spec (field_22_4 h0 h1 hx22) [] (by decide) (by cbv) trivial ?_
  conv => cbv
  refine OkCall.by_spec (field_18_4 h0 h1 hx18) [] (by decide) (by cbv) trivial ?_
  conv => cbv
  refine OkCall.by_spec (field_14_4 h0 h1 hx14) [] (by decide) (by cbv) trivial ?_
  conv => cbv
  refine OkCall.by_spec (field_0_18 h0 h1 (v := l18) (by omega)) [] (by decide) (by cbv) trivial ?_
  conv => cbv
  refine OkCall.by_spec (field_0_22 h0 h1 (v := l22) (by omega)) [] (by decide) (by cbv) trivial ?_
  conv => cbv
  refine Br.mk (fun hc => ?_) (fun hc => ?_)
  · simp only [leafs, decide_eq_true_eq] at hc
    conv => cbv
    refine LeOut.two (LeOut.mk' [0] (by decide) rfl (by decide) ?_ (by cbv))
    conv => cbv
    refine ⟨?_, trivial⟩
    show i = subI .i64 l18 262144
    rw [subI_eq, IntWalk.i64_in _ (by omega), hi]; omega
  · simp only [leafs, decide_eq_false_iff_not] at hc
    conv => cbv
    refine LeOut.two (LeOut.mk' [0] (by decide) rfl (by decide) ?_ (by cbv))
    conv => cbv
    refine ⟨?_, trivial⟩
    show i = l18
    rw [hi]; omega
theorem apart_35 {w : Int} (h0 : 0 ≤ w) (h1 : w < 4294967296) (hk : w / 67108864 = 35) (i : Int) (hi : i = if 131072 ≤ w % 262144 then w % 262144 - 262144 else w % 262144) (x22 x18 x14 l18 l22 l14 l26 : Int) (hx22 : w / 4194304 % 16 = x22) (hx18 : w / 262144 % 16 = x18) (hx14 : w / 16384 % 16 = x14) (hl18 : w % 262144 = l18) (hl22 : w % 4194304 = l22) (hl14 : w % 16384 = l14) (hl26 : w % 67108864 = l26) : Spec1 kit 32 [.i .u32 (.ex w)] [] false (.agg [.i .i64 (.lit 34), .i .i64 (.ex x22), .i .i64 (.ex x18), .i .i64 (.ex x14), .i .i64 (.ex i)]) [] [] := by
  refine Spec1.mk2 rfl fun F => ?_
  refine into I32ok 6 ?_
  conv => cbv
  refine OkCall.by_spec (field_26_6 h0 h1 (v := 35) (by omega)) [] (by decide) (by cbv) trivial ?_
  conv => cbv
  refine Obs.int (.lit 34) (by show (34 : Int) = subI .i64 35 1; rw [subI_eq]; rfl) ?_
  conv => cbv
  refine OkCall.by_spec (field_22_4 h0 h1 hx22) [] (by decide) (by cbv) trivial ?_
  conv => cbv
  refine OkCall.by_spec (field_18_4 h0 h1 hx18) [] (by decide) (by cbv) trivial ?_
  conv => cbv
  refine OkCall.by_spec (field_14_4 h0 h1 hx14) [] (by decide) (by cbv) trivial ?_
  conv => cbv
  refine OkCall.by_spec (field_0_18 h0 h1 (v := l18) (by omega)) [] (by decide) (by cbv) trivial ?_
  conv => cbv
  refine OkCall.by_spec (field_0_22 h0 h1 (v := l22) (by omega)) [] (by decide) (by cbv) trivial ?_
  conv => cbv
  refine Br.mk (fun hc => ?_) (fun hc => ?_)
  · simp only [leafs, decide_eq_true_eq] at hc
    conv => cbv
    refine LeOut.two (LeOut.mk' [0] (by decide) rfl (by decide) ?_ (by cbv))
    conv => cbv
    refine ⟨?_, trivial⟩
    show i = subI .i64 l18 262144
    rw [subI_eq, IntWalk.i64_in _ (by omega), hi]; omega
  · simp only [leafs, decide_eq_false_iff_not] at hc
    conv => cbv
    refine LeOut.two (LeOut.mk' [0] (by decide) rfl (by decide) ?_ (by cbv))
    conv => cbv
    refine ⟨?_, trivial⟩
    show i = l18
    rw [hi]; omega
theorem apart_36 {w : Int} (h0 : 0 ≤ w) (h1 : w < 4294967296) (hk : w / 67108864 = 36) (i : Int) (hi : i = if 131072 ≤ w % 262144 then w % 262144 - 262144 else w % 262144) (x22 x18 x14 l18 l22 l14 l26 : Int) (hx22 : w / 4194304 % 16 = x22) (hx18 : w / 262144 % 16 = x18) (hx14 : w / 16384 % 16 = x14) (hl18 : w % 262144 = l18) (hl22 : w % 4194304 = l22) (hl14 : w % 16384 = l14) (hl26 : w % 67108864 = l26) : Spec1 kit 32 [.i .u32 (.ex w)] [] false (.agg [.i .i64 (.lit 35), .i .i64 (.ex x22), .i .i64 (.ex x18), .i .i64 (.ex x14), .i .i64 (.ex i)]) [] [] := by
  refine Spec1.mk2 rfl fun F => ?_
  refine into I32ok 6 ?_
  conv => cbv
  refine OkCall.by_spec (field_26_6 h0 h1 (v := 36) (by omega)) [] (by decide) (by cbv) trivial ?_
  conv => cbv
  refine Obs.int (.lit 35) (by show (35 : Int) = subI .i64 36 1; rw [subI_eq]; rfl) ?_
  conv => cbv
  refine OkCall.by_spec (field_22_4 h0 h1 hx22) [] (by decide) (by cbv) trivial ?_
  conv => cbv
  refine OkCall.by_spec (field_18_4 h0 h1 hx18) [] (by decide) (by cbv) trivial ?_
  conv => cbv
  refine OkCall.by_spec (field_14_4 h0 h1 hx14) [] (by decide) (by cbv) trivial ?_
  conv => cbv
  refine OkCall.by_spec (field_0_18 h0 h1 (v := l18) (by omega)) [] (by decide) (by cbv) trivial ?_
  conv => cbv
  refine OkCall.by_spec (field_0_22 h0 h1 (v := l22) (by omega)) [] (by decide) (by cbv) trivial ?_
  conv => cbv
  refine Br.mk (fun hc => ?_) (fun hc => ?_)
  · simp only [leafs, decide_eq_true_eq] at hc
    conv => cbv
    refine LeOut.two (LeOut.mk' [0] (by decide) rfl (by decide) ?_ (by cbv))
    conv => cbv
    refine ⟨?_, trivial⟩
    show i = subI .i64 l18 262144
    rw [subI_eq, IntWalk.i64_in _ (by omega), hi]; omega
  · simp only [leafs, decide_eq_false_iff_not] at hc
    conv => cbv
    refine LeOut.two (LeOut.mk' [0] (by decide) rfl (by decide) ?_ (by cbv))
    conv => cbv
    refine ⟨?_, trivial⟩
    show i = l18
    rw [hi]; omega
theorem apart_37 {w : Int} (h0 : 0 ≤ w) (h1 : w < 4294967296) (hk : w / 67108864 = 37) (i : Int) (hi : i = if 131072 ≤ w % 262144 then w % 262144 - 262144 else w % 262144) (x22 x18 x14 l18 l22 l14 l26 : Int) (hx22 : w / 4194304 % 16 = x22) (hx18 : w / 262144 % 16 = x18) (hx14 : w / 16384 % 16 = x14) (hl18 : w % 262144 = l18) (hl22 : w % 4194304 = l22) (hl14 : w % 16384 = l14) (hl26 : w % 67108864 = l26) : Spec1 kit 32 [.i .u32 (.ex w)] [] false (.agg [.i .i64 (.lit 36), .i .i64 (.ex x22), .i .i64 (.ex x18), .i .i64 (.ex x14), .i .i64 (.ex i)]) [] [] := by
  refine Spec1.mk2 rfl fun F => ?_
  refine into I32ok 6 ?_
  conv => cbv
  refine OkCall.by_spec (field_26_6 h0 h1 (v := 37) (by omega)) [] (by decide) (by cbv) trivial ?_
  conv => cbv
  refine Obs.int (.lit 36) (by show (36 : Int) = subI .i64 37 1; rw [subI_eq]; rfl) ?_
  conv => cbv
  refine OkCall.by_spec (field_22_4 h0 h1 hx22) [] (by decide) (by cbv) trivial ?_
  conv => cbv
  refine OkCall.by_spec (field_18_4 h0 h1 hx18) [] (by decide) (by cbv) trivial ?_
  conv => cbv
  refine OkCall.by_spec (field_14_4 h0 h1 hx14) [] (by decide) (by cbv) trivial ?_
  conv => cbv
  refine OkCall.by_spec (field_0_18 h0 h1 (v := l18) (by omega)) [] (by decide) (by cbv) trivial ?_
  conv => cbv
  refine OkCall.by_spec (field_0_22 h0 h1 (v := l22) (by omega)) [] (by decide) (by cbv) trivial ?_
  conv => cbv
  refine Br.mk (fun hc => ?_) (fun hc => ?_)
  · simp only [leafs, decide_eq_true_eq] at hc
    conv => cbv
    refine LeOut.two (LeOut.mk' [0] (by decide) rfl (by decide) ?_ (by cbv))
    conv => cbv
    refine ⟨?_, trivial⟩
    show i = subI .i64 l18 262144
    rw [subI_eq, IntWalk.i64_in _ (by omega), hi]; omega
  · simp only [leafs, decide_eq_false_iff_not] at hc
    conv => cbv
    refine LeOut.two (LeOut.mk' [0] (by decide) rfl (by decide) ?_ (by cbv))
    conv => cbv
    refine ⟨?_, trivial⟩
    show i = l18
    rw [hi]; omega
theorem apart_38 {w : Int} (h0 : 0 ≤ w) (h1 : w < 4294967296) (hk : w / 67108864 = 38) (i : Int) (hi : i = if 2097152 ≤ w % 4194304 then w % 4194304 - 4194304 else w % 4194304) (x22 x18 x14 l18 l22 l14 l26 : Int) (hx22 : w / 4194304 % 16 = x22) (hx18 : w / 262144 % 16 = x18) (hx14 : w / 16384 % 16 = x14) (hl18 : w % 262144 = l18) (hl22 : w % 4194304 = l22) (hl14 : w % 16384 = l14) (hl26 : w % 67108864 = l26) : Spec1 kit 32 [.i .u32 (.ex w)] [] false (.agg [.i .i64 (.lit 37), .i .i64 (.ex x22), .i .i64 (.ex x18), .i .i64 (.ex x14), .i .i64 (.ex i)]) [] [] := by
  refine Spec1.mk2 rfl fun F => ?_
  refine into I32ok 6 ?_
  conv => cbv
  refine OkCall.by_spec (field_26_6 h0 h1 (v := 38) (by omega)) [] (by decide) (by cbv) trivial ?_
  conv => cbv
  refine Obs.int (.lit 37) (by show (37 : Int) = subI .i64 38 1; rw [subI_eq]; rfl) ?_
  conv => cbv
  refine OkCall.by_spec (field_22_4 h0 h1 hx22) [] (by decide) (by cbv) trivial ?_
  conv => cbv
  refine OkCall.by_spec (field_18_4 h0 h1 hx18) [] (by decide) (by cbv) trivial ?_
  conv => cbv
  refine OkCall.by_spec (field_14_4 h0 h1 hx14) [] (by decide) (by cbv) trivial ?_
  conv => cbv
  refine OkCall.by_spec (field_0_18 h0 h1 (v := l18) (by omega)) [] (by decide) (by cbv) trivial ?_
  conv => cbv
  refine OkCall.by_spec (field_0_22 h0 h1 (v := l22) (by omega)) [] (by decide) (by cbv) trivial ?_
  conv => cbv
  refine Br.mk (fun hc => ?_) (fun hc => ?_)
  · simp only [leafs, decide_eq_true_eq] at hc
    conv => cbv
    refine LeOut.two (LeOut.mk' [0] (by decide) rfl (by decide) ?_ (by cbv))
    conv => cbv
    refine ⟨?_, trivial⟩
    show i = subI .i64 l22 4194304
    rw [subI_eq, IntWalk.i64_in _ (by omega), hi]; omega
  · simp only [leafs, decide_eq_false_iff_not] at hc
    conv => cbv
    refine LeOut.two (LeOut.mk' [0] (by decide) rfl (by decide) ?_ (by cbv))
    conv => cbv
    refine ⟨?_, trivial⟩
    show i = l22
    rw [hi]; omega
theorem apart_39 {w : Int} (h0 : 0 ≤ w) (h1 : w < 4294967296) (hk : w / 67108864 = 39) (i : Int) (hi : i = if 131072 ≤ w % 262144 then w % 262144 - 262144 else w % 262144) (x22 x18 x14 l18 l22 l14 l26 : Int) (hx22 : w / 4194304 % 16 = x22) (hx18 : w / 262144 % 16 = x18) (hx14 : w / 16384 % 16 = x14) (hl18 : w % 262144 = l18) (hl22 : w % 4194304 = l22) (hl14 : w % 16384 = l14) (hl26 : w % 67108864 = l26) : Spec1 kit 32 [.i .u32 (.ex w)] [] false (.agg [.i .i64 (.lit 38), .i .i64 (.ex x22), .i .i64 (.ex x18), .i .i64 (.ex x14), .i .i64 (.ex i)]) [] [] := by
  refine Spec1.mk2 rfl fun F => ?_
  refine into I32ok 6 ?_
  conv => cbv
  refine OkCall.by_spec (field_26_6 h0 h1 (v := 39) (by omega)) [] (by decide) (by cbv) trivial ?_
  conv => cbv
  refine Obs.int (.lit 38) (by show (38 : Int) = subI .i64 39 1; rw [subI_eq]; rfl) ?_
  conv => cbv
  refine OkCall.by_spec (field_22_4 h0 h1 hx22) [] (by decide) (by cbv) trivial ?_
  conv => cbv
  refine OkCall.by_spec (field_18_4 h0 h1 hx18) [] (by decide) (by cbv) trivial ?_
  conv => cbv
  refine OkCall.by_spec (field_14_4 h0 h1 hx14) [] (by decide) (by cbv) trivial ?_
  conv => cbv
  refine OkCall.by_spec (field_0_18 h0 h1 (v := l18) (by omega)) [] (by decide) (by cbv) trivial ?_
  conv => cbv
  refine OkCall.by_spec (field_0_22 h0 h1 (v := l22) (by omega)) [] (by decide) (by cbv) trivial ?_
  conv => cbv
  refine Br.mk (fun hc => ?_) (fun hc => ?_)
  · simp only [leafs, decide_eq_true_eq] at hc
    conv => cbv
    refine LeOut.two (LeOut.mk' [0] (by decide) rfl (by decide) ?_ (by cbv))
    conv => cbv
    refine ⟨?_, trivial⟩
    show i = subI .i64 l18 262144
    rw [subI_eq, IntWalk.i64_in _ (by omega), hi]; omega
  · simp only [leafs, decide_eq_false_iff_not] at hc
    conv => cbv
    refine LeOut.two (LeOut.mk' [0] (by decide) rfl (by decide) ?_ (by cbv))
    conv => cbv
    refine ⟨?_, trivial⟩
    show i = l18
    rw [hi]; omega
theorem apart_40 {w : Int} (h0 : 0 ≤ w) (h1 : w < 4294967296) (hk : w / 67108864 = 40) (hv : w % 67108864 < 262144) (x22 x18 x14 l18 l22 l14 l26 : Int) (hx22 : w / 4194304 % 16 = x22) (hx18 : w / 262144 % 16 = x18) (hx14 : w / 16384 % 16 = x14) (hl18 : w % 262144 = l18) (hl22 : w % 4194304 = l22) (hl14 : w % 16384 = l14) (hl26 : w % 67108864 = l26) : Spec1 kit 32 [.i .u32 (.ex w)] [] false (.agg [.i .i64 (.lit 39), .i .i64 (.ex x22), .i .i64 (.ex x18), .i .i64 (.ex x14), .i .i64 (.ex l26)]) [] [] := by
  refine Spec1.mk2 rfl fun F => ?_
  refine into I32ok 6 ?_
  conv => cbv
  refine OkCall.by_spec (field_26_6 h0 h1 (v := 40) (by omega)) [] (by decide) (by cbv) trivial ?_
  conv => cbv
  refine Obs.int (.lit 39) (by show (39 : Int) = subI .i64 40 1; rw [subI_eq]; rfl) ?_
  conv => cbv
  refine OkCall.by_spec (field_22_4 h0 h1 hx22) [] (by decide) (by cbv) trivial ?_
  conv => cbv
  refine OkCall.by_spec (field_18_4 h0 h1 hx18) [] (by decide) (by cbv) trivial ?_
  conv => cbv
  refine OkCall.by_spec (field_14_4 h0 h1 hx14) [] (by decide) (by cbv) trivial ?_
  conv => cbv
  refine OkCall.by_spec (field_0_18 h0 h1 (v := l18) (by omega)) [] (by decide) (by cbv) trivial ?_
  conv => cbv
  refine OkCall.by_spec (field_0_22 h0 h1 (v := l22) (by omega)) [] (by decide) (by cbv) trivial ?_
  conv => cbv
  refine OkCall.by_spec (field_0_26 h0 h1 (v := l26) (by omega)) [] (by decide) (by cbv) trivial ?_
  conv => cbv
  refine Br.no (by simp only [leafs, decide_eq_false_iff_not, decide_eq_true_eq]; omega) ?_
  conv => cbv
  exact LeOut.two (LeOut.mk' [0] (by decide) rfl (by decide) (by cbv) (by cbv))
theorem apart_40_bad {w : Int} (h0 : 0 ≤ w) (h1 : w < 4294967296) (hk : w / 67108864 = 40) (hv : 262144 ≤ w % 67108864) (x22 x18 x14 l18 l22 l14 l26 : Int) (hx22 : w / 4194304 % 16 = x22) (hx18 : w / 262144 % 16 = x18) (hx14 : w / 16384 % 16 = x14) (hl18 : w % 262144 = l18) (hl22 : w % 4194304 = l22) (hl14 : w % 16384 = l14) (hl26 : w % 67108864 = l26) : Spec1 kit 32 [.i .u32 (.ex w)] [] false (.agg [.i .i64 (.lit (-1)), .i .i64 (.lit 0), .i .i64 (.lit 0), .i .i64 (.lit 0), .i .i64 (.lit 0)]) [] [] := by
  refine Spec1.mk2 rfl fun F => ?_
  refine into I32ok 6 ?_
  conv => cbv
  refine OkCall.by_spec (field_26_6 h0 h1 (v := 40) (by omega)) [] (by decide) (by cbv) trivial ?_
  conv => cbv
  refine Obs.int (.lit 39) (by show (39 : Int) = subI .i64 40 1; rw [subI_eq]; rfl) ?_
  conv => cbv
  refine OkCall.by_spec (field_22_4 h0 h1 hx22) [] (by decide) (by cbv) trivial ?_
  conv => cbv
  refine OkCall.by_spec (field_18_4 h0 h1 hx18) [] (by decide) (by cbv) trivial ?_
  conv => cbv
  refine OkCall.by_spec (field_14_4 h0 h1 hx14) [] (by decide) (by cbv) trivial ?_
  conv => cbv
  refine OkCall.by_spec (field_0_18 h0 h1 (v := l18) (by omega)) [] (by decide) (by cbv) trivial ?_
  conv => cbv
  refine OkCall.by_spec (field_0_22 h0 h1 (v := l22) (by omega)) [] (by decide) (by cbv) trivial ?_
  conv => cbv
  refine OkCall.by_spec (field_0_26 h0 h1 (v := l26) (by omega)) [] (by decide) (by cbv) trivial ?_
  conv => cbv
  refine Br.yes (by simp only [leafs, decide_eq_false_iff_not, decide_eq_true_eq]; omega) ?_
  conv => cbv
  exact LeOut.two (LeOut.mk' [0] (by decide) rfl (by decide) (by cbv) (by cbv))
theorem apart_41 {w : Int} (h0 : 0 ≤ w) (h1 : w < 4294967296) (hk : w / 67108864 = 41) (hv : w % 4194304 = 0) (x22 x18 x14 l18 l22 l14 l26 : Int) (hx22 : w / 4194304 % 16 = x22) (hx18 : w / 262144 % 16 = x18) (hx14 : w / 16384 % 16 = x14) (hl18 : w % 262144 = l18) (hl22 : w % 4194304 = l22) (hl14 : w % 16384 = l14) (hl26 : w % 67108864 = l26) : Spec1 kit 32 [.i .u32 (.ex w)] [] false (.agg [.i .i64 (.lit 40), .i .i64 (.ex x22), .i .i64 (.ex x18), .i .i64 (.ex x14), .i .i64 (.lit 0)]) [] [] := by
  refine Spec1.mk2 rfl fun F => ?_
  refine into I32ok 6 ?_
  conv => cbv
  refine OkCall.by_spec (field_26_6 h0 h1 (v := 41) (by omega)) [] (by decide) (by cbv) trivial ?_
  conv => cbv
  refine Obs.int (.lit 40) (by show (40 : Int) = subI .i64 41 1; rw [subI_eq]; rfl) ?_
  conv => cbv
  refine OkCall.by_spec (field_22_4 h0 h1 hx22) [] (by decide) (by cbv) trivial ?_
  conv => cbv
  refine OkCall.by_spec (field_18_4 h0 h1 hx18) [] (by decide) (by cbv) trivial ?_
  conv => cbv
  refine OkCall.by_spec (field_14_4 h0 h1 hx14) [] (by decide) (by cbv) trivial ?_
  conv => cbv
  refine OkCall.by_spec (field_0_18 h0 h1 (v := l18) (by omega)) [] (by decide) (by cbv) trivial ?_
  conv => cbv
  refine OkCall.by_spec (field_0_22 h0 h1 (v := l22) (by omega)) [] (by decide) (by cbv) trivial ?_
  conv => cbv
  refine Br.no (by simp only [leafs, Bool.not_eq_false', Bool.not_eq_true', beq_iff_eq, beq_eq_false_iff_ne, ne_eq]; omega) ?_
  conv => cbv
  exact LeOut.two (LeOut.mk' [0] (by decide) rfl (by decide) (by cbv) (by cbv))
theorem apart_41_bad {w : Int} (h0 : 0 ≤ w) (h1 : w < 4294967296) (hk : w / 67108864 = 41) (hv : w % 4194304 ≠ 0) (x22 x18 x14 l18 l22 l14 l26 : Int) (hx22 : w / 4194304 % 16 = x22) (hx18 : w / 262144 % 16 = x18) (hx14 : w / 16384 % 16 = x14) (hl18 : w % 262144 = l18) (hl22 : w % 4194304 = l22) (hl14 : w % 16384 = l14) (hl26 : w % 67108864 = l26) : Spec1 kit 32 [.i .u32 (.ex w)] [] false (.agg [.i .i64 (.lit (-1)), .i .i64 (.lit 0), .i .i64 (.lit 0), .i .i64 (.lit 0), .i .i64 (.lit 0)]) [] [] := by
  refine Spec1.mk2 rfl fun F => ?_
  refine into I32ok 6 ?_
  conv => cbv
  refine OkCall.by_spec (field_26_6 h0 h1 (v := 41) (by omega)) [] (by decide) (by cbv) trivial ?_
  conv => cbv
  refine Obs.int (.lit 40) (by show (40 : Int) = subI .i64 41 1; rw [subI_eq]; rfl) ?_
  conv => cbv
  refine OkCall.by_spec (field_22_4 h0 h1 hx22) [] (by decide) (by cbv) trivial ?_
  conv => cbv
  refine OkCall.by_spec (field_18_4 h0 h1 hx18) [] (by decide) (by cbv) trivial ?_
  conv => cbv
  refine OkCall.by_spec (field_14_4 h0 h1 hx14) [] (by decide) (by cbv) trivial ?_
  conv => cbv
  refine OkCall.by_spec (field_0_18 h0 h1 (v := l18) (by omega)) [] (by decide) (by cbv) trivial ?_
  conv => cbv
  refine OkCall.by_spec (field_0_22 h0 h1 (v := l22) (by omega)) [] (by decide) (by cbv) trivial ?_
  conv => cbv
  refine Br.yes (by simp only [leafs, Bool.not_eq_false', Bool.not_eq_true', beq_iff_eq, beq_eq_false_iff_ne, ne_eq]; omega) ?_
  conv => cbv
  exact LeOut.two (LeOut.mk' [0] (by decide) rfl (by decide) (by cbv) (by cbv))
theorem apart_42 {w : Int} (h0 : 0 ≤ w) (h1 : w < 4294967296) (hk : w / 67108864 = 42) (hv : w % 67108864 = 0) (x22 x18 x14 l18 l22 l14 l26 : Int) (hx22 : w / 4194304 % 16 = x22) (hx18 : w / 262144 % 16 = x18) (hx14 : w / 16384 % 16 = x14) (hl18 : w % 262144 = l18) (hl22 : w % 4194304 = l22) (hl14 : w % 16384 = l14) (hl26 : w % 67108864 = l26) : Spec1 kit 32 [.i .u32 (.ex w)] [] false (.agg [.i .i64 (.lit 41), .i .i64 (.ex x22), .i .i64 (.ex x18), .i .i64 (.ex x14), .i .i64 (.lit 0)]) [] [] := by
  refine Spec1.mk2 rfl fun F => ?_
  refine into I32ok 6 ?_
  conv => cbv
  refine OkCall.by_spec (field_26_6 h0 h1 (v := 42) (by omega)) [] (by decide) (by cbv) trivial ?_
  conv => cbv
  refine Obs.int (.lit 41) (by show (41 : Int) = subI .i64 42 1; rw [subI_eq]; rfl) ?_
  conv => cbv
  refine OkCall.by_spec (field_22_4 h0 h1 hx22) [] (by decide) (by cbv) trivial ?_
  conv => cbv
  refine OkCall.by_spec (field_18_4 h0 h1 hx18) [] (by decide) (by cbv) trivial ?_
  conv => cbv
  refine OkCall.by_spec (field_14_4 h0 h1 hx14) [] (by decide) (by cbv) trivial ?_
  conv => cbv
  refine OkCall.by_spec (field_0_18 h0 h1 (v := l18) (by omega)) [] (by decide) (by cbv) trivial ?_
  conv => cbv
  refine OkCall.by_spec (field_0_22 h0 h1 (v := l22) (by omega)) [] (by decide) (by cbv) trivial ?_
  conv => cbv
  refine OkCall.by_spec (field_0_26 h0 h1 (v := l26) (by omega)) [] (by decide) (by cbv) trivial ?_
  conv => cbv
  refine Br.no (by simp only [leafs, Bool.not_eq_false', Bool.not_eq_true', beq_iff_eq, beq_eq_false_iff_ne, ne_eq]; omega) ?_
  conv => cbv
  exact LeOut.two (LeOut.mk' [0] (by decide) rfl (by decide) (by cbv) (by cbv))
theorem apart_42_bad {w : Int} (h0 : 0 ≤ w) (h1 : w < 4294967296) (hk : w / 67108864 = 42) (hv : w % 67108864 ≠ 0) (x22 x18 x14 l18 l22 l14 l26 : Int) (hx22 : w / 4194304 % 16 = x22) (hx18 : w / 262144 % 16 = x18) (hx14 : w / 16384 % 16 = x14) (hl18 : w % 262144 = l18) (hl22 : w % 4194304 = l22) (hl14 : w % 16384 = l14) (hl26 : w % 67108864 = l26) : Spec1 kit 32 [.i .u32 (.ex w)] [] false (.agg [.i .i64 (.lit (-1)), .i .i64 (.lit 0), .i .i64 (.lit 0), .i .i64 (.lit 0), .i .i64 (.lit 0)]) [] [] := by
  refine Spec1.mk2 rfl fun F => ?_
  refine into I32ok 6 ?_
  conv => cbv
  refine OkCall.by_spec (field_26_6 h0 h1 (v := 42) (by omega)) [] (by decide) (by cbv) trivial ?_
  conv => cbv
  refine Obs.int (.lit 41) (by show (41 : Int) = subI .i64 42 1; rw [subI_eq]; rfl) ?_
  conv => cbv
  refine OkCall.by_spec (field_22_4 h0 h1 hx22) [] (by decide) (by cbv) trivial ?_
  conv => cbv
  refine OkCall.by_spec (field_18_4 h0 h1 hx18) [] (by decide) (by cbv) trivial ?_
  conv => cbv
  refine OkCall.by_spec (field_14_4 h0 h1 hx14) [] (by decide) (by cbv) trivial ?_
  conv => cbv
  refine OkCall.by_spec (field_0_18 h0 h1 (v := l18) (by omega)) [] (by decide) (by cbv) trivial ?_
  conv => cbv
  refine OkCall.by_spec (field_0_22 h0 h1 (v := l22) (by omega)) [] (by decide) (by cbv) trivial ?_
  conv => cbv
  refine OkCall.by_spec (field_0_26 h0 h1 (v := l26) (by omega)) [] (by decide) (by cbv) trivial ?_
  conv => cbv
  refine Br.yes (by simp only [leafs, Bool.not_eq_false', Bool.not_eq_true', beq_iff_eq, beq_eq_false_iff_ne, ne_eq]; omega) ?_
  conv => cbv
  exact LeOut.two (LeOut.mk' [0] (by decide) rfl (by decide) (by cbv) (by cbv))
theorem apart_43 {w : Int} (h0 : 0 ≤ w) (h1 : w < 4294967296) (hk : w / 67108864 = 43) (hv : w % 67108864 = 0) (x22 x18 x14 l18 l22 l14 l26 : Int) (hx22 : w / 4194304 % 16 = x22) (hx18 : w / 262144 % 16 = x18) (hx14 : w / 16384 % 16 = x14) (hl18 : w % 262144 = l18) (hl22 : w % 4194304 = l22) (hl14 : w % 16384 = l14) (hl26 : w % 67108864 = l26) : Spec1 kit 32 [.i .u32 (.ex w)] [] false (.agg [.i .i64 (.lit 42), .i .i64 (.ex x22), .i .i64 (.ex x18), .i .i64 (.ex x14), .i .i64 (.lit 0)]) [] [] := by
  refine Spec1.mk2 rfl fun F => ?_
  refine into I32ok 6 ?_
  conv => cbv
  refine OkCall.by_spec (field_26_6 h0 h1 (v := 43) (by omega)) [] (by decide) (by cbv) trivial ?_
  conv => cbv
  refine Obs.int (.lit 42) (by show (42 : Int) = subI .i64 43 1; rw [subI_eq]; rfl) ?_
  conv => cbv
  refine OkCall.by_spec (field_22_4 h0 h1 hx22) [] (by decide) (by cbv) trivial ?_
  conv => cbv
  refine OkCall.by_spec (field_18_4 h0 h1 hx18) [] (by decide) (by cbv) trivial ?_
  conv => cbv
  refine OkCall.by_spec (field_14_4 h0 h1 hx14) [] (by decide) (by cbv) trivial ?_
  conv => cbv
  refine OkCall.by_spec (field_0_18 h0 h1 (v := l18) (by omega)) [] (by decide) (by cbv) trivial ?_
  conv => cbv
  refine OkCall.by_spec (field_0_22 h0 h1 (v := l22) (by omega)) [] (by decide) (by cbv) trivial ?_
  conv => cbv
  refine OkCall.by_spec (field_0_26 h0 h1 (v := l26) (by omega)) [] (by decide) (by cbv) trivial ?_
  conv => cbv
  refine Br.no (by simp only [leafs, Bool.not_eq_false', Bool.not_eq_true', beq_iff_eq, beq_eq_false_iff_ne, ne_eq]; omega) ?_
  conv => cbv
  exact LeOut.two (LeOut.mk' [0] (by decide) rfl (by decide) (by cbv) (by cbv))
theorem apart_43_bad {w : Int} (h0 : 0 ≤ w) (h1 : w < 4294967296) (hk : w / 67108864 = 43) (hv : w % 67108864 ≠ 0) (x22 x18 x14 l18 l22 l14 l26 : Int) (hx22 : w / 4194304 % 16 = x22) (hx18 : w / 262144 % 16 = x18) (hx14 : w / 16384 % 16 = x14) (hl18 : w % 262144 = l18) (hl22 : w % 4194304 = l22) (hl14 : w % 16384 = l14) (hl26 : w % 67108864 = l26) : Spec1 kit 32 [.i .u32 (.ex w)] [] false (.agg [.i .i64 (.lit (-1)), .i .i64 (.lit 0), .i .i64 (.lit 0), .i .i64 (.lit 0), .i .i64 (.lit 0)]) [] [] := by
  refine Spec1.mk2 rfl fun F => ?_
  refine into I32ok 6 ?_
  conv => cbv
  refine OkCall.by_spec (field_26_6 h0 h1 (v := 43) (by omega)) [] (by decide) (by cbv) trivial ?_
  conv => cbv
  refine Obs.int (.lit 42) (by show (42 : Int) = subI .i64 43 1; rw [subI_eq]; rfl) ?_
  conv => cbv
  refine OkCall.by_spec (field_22_4 h0 h1 hx22) [] (by decide) (by cbv) trivial ?_
  conv => cbv
  refine OkCall.by_spec (field_18_4 h0 h1 hx18) [] (by decide) (by cbv) trivial ?_
  conv => cbv
  refine OkCall.by_spec (field_14_4 h0 h1 hx14) [] (by decide) (by cbv) trivial ?_
  conv => cbv
  refine OkCall.by_spec (field_0_18 h0 h1 (v := l18) (by omega)) [] (by decide) (by cbv) trivial ?_
  conv => cbv
  refine OkCall.by_spec (field_0_22 h0 h1 (v := l22) (by omega)) [] (by decide) (by cbv) trivial ?_
  conv => cbv
  refine OkCall.by_spec (field_0_26 h0 h1 (v := l26) (by omega)) [] (by decide) (by cbv) trivial ?_
  conv => cbv
  refine Br.yes (by simp only [leafs, Bool.not_eq_false', Bool.not_eq_true', beq_iff_eq, beq_eq_false_iff_ne, ne_eq]; omega) ?_
  conv => cbv
  exact LeOut.two (LeOut.mk' [0] (by decide) rfl (by decide) (by cbv) (by cbv))
theorem apart_44 {w : Int} (h0 : 0 ≤ w) (h1 : w < 4294967296) (hk : w / 67108864 = 44) (hv : w % 67108864 = 0) (x22 x18 x14 l18 l22 l14 l26 : Int) (hx22 : w / 4194304 % 16 = x22) (hx18 : w / 262144 % 16 = x18) (hx14 : w / 16384 % 16 = x14) (hl18 : w % 262144 = l18) (hl22 : w % 4194304 = l22) (hl14 : w % 16384 = l14) (hl26 : w % 67108864 = l26) : Spec1 kit 32 [.i .u32 (.ex w)] [] false (.agg [.i .i64 (.lit 43), .i .i64 (.ex x22), .i .i64 (.ex x18), .i .i64 (.ex x14), .i .i64 (.lit 0)]) [] [] := by
  refine Spec1.mk2 rfl fun F => ?_
  refine into I32ok 6 ?_
  conv => cbv
  refine OkCall.by_spec (field_26_6 h0 h1 (v := 44) (by omega)) [] (by decide) (by cbv) trivial ?_
  conv => cbv
  refine Obs.int (.lit 43) (by show (43 : Int) = subI .i64 44 1; rw [subI_eq]; rfl) ?_
  conv => cbv
  refine OkCall.by_spec (field_22_4 h0 h1 hx22) [] (by decide) (by cbv) trivial ?_
  conv => cbv
  refine OkCall.by_spec (field_18_4 h0 h1 hx18) [] (by decide) (by cbv) trivial ?_
  conv => cbv
  refine OkCall.by_spec (field_14_4 h0 h1 hx14) [] (by decide) (by cbv) trivial ?_
  conv => cbv
  refine OkCall.by_spec (field_0_18 h0 h1 (v := l18) (by omega)) [] (by decide) (by cbv) trivial ?_
  conv => cbv
  refine OkCall.by_spec (field_0_22 h0 h1 (v := l22) (by omega)) [] (by decide) (by cbv) trivial ?_
  conv => cbv
  refine OkCall.by_spec (field_0_26 h0 h1 (v := l26) (by omega)) [] (by decide) (by cbv) trivial ?_
  conv => cbv
  refine Br.no (by simp only [leafs, Bool.not_eq_false', Bool.not_eq_true', beq_iff_eq, beq_eq_false_iff_ne, ne_eq]; omega) ?_
  conv => cbv
  exact LeOut.two (LeOut.mk' [0] (by decide) rfl (by decide) (by cbv) (by cbv))
theorem apart_44_bad {w : Int} (h0 : 0 ≤ w) (h1 : w < 4294967296) (hk : w / 67108864 = 44) (hv : w % 67108864 ≠ 0) (x22 x18 x14 l18 l22 l14 l26 : Int) (hx22 : w / 4194304 % 16 = x22) (hx18 : w / 262144 % 16 = x18) (hx14 : w / 16384 % 16 = x14) (hl18 : w % 262144 = l18) (hl22 : w % 4194304 = l22) (hl14 : w % 16384 = l14) (hl26 : w % 67108864 = l26) : Spec1 kit 32 [.i .u32 (.ex w)] [] false (.agg [.i .i64 (.lit (-1)), .i .i64 (.lit 0), .i .i64 (.lit 0), .i .i64 (.lit 0), .i .i64 (.lit 0)]) [] [] := by
  refine Spec1.mk2 rfl fun F => ?_
  refine into I32ok 6 ?_
  conv => cbv
  refine OkCall.by_spec (field_26_6 h0 h1 (v := 44) (by omega)) [] (by decide) (by cbv) trivial ?_
  conv => cbv
  refine Obs.int (.lit 43) (by show (43 : Int) = subI .i64 44 1; rw [subI_eq]; rfl) ?_
  conv => cbv
  refine OkCall.by_spec (field_22_4 h0 h1 hx22) [] (by decide) (by cbv) trivial ?_
  conv => cbv
  refine OkCall.by_spec (field_18_4 h0 h1 hx18) [] (by decide) (by cbv) trivial ?_
  conv => cbv
  refine OkCall.by_spec (field_14_4 h0 h1 hx14) [] (by decide) (by cbv) trivial ?_
  conv => cbv
  refine OkCall.by_spec (field_0_18 h0 h1 (v := l18) (by omega)) [] (by decide) (by cbv) trivial ?_
  conv => cbv
  refine OkCall.by_spec (field_0_22 h0 h1 (v := l22) (by omega)) [] (by decide) (by cbv) trivial ?_
  conv => cbv
  refine OkCall.by_spec (field_0_26 h0 h1 (v := l26) (by omega)) [] (by decide) (by cbv) trivial ?_
  conv => cbv
  refine Br.yes (by simp only [leafs, Bool.not_eq_false', Bool.not_eq_true', beq_iff_eq, beq_eq_false_iff_ne, ne_eq]; omega) ?_
  conv => cbv
  exact LeOut.two (LeOut.mk' [0] (by decide) rfl (by decide) (by cbv) (by cbv))
theorem apart_45 {w : Int} (h0 : 0 ≤ w) (h1 : w < 4294967296) (hk : w / 67108864 = 45) (hv : w % 67108864 = 0) (x22 x18 x14 l18 l22 l14 l26 : Int) (hx22 : w / 4194304 % 16 = x22) (hx18 : w / 262144 % 16 = x18) (hx14 : w / 16384 % 16 = x14) (hl18 : w % 262144 = l18) (hl22 : w % 4194304 = l22) (hl14 : w % 16384 = l14) (hl26 : w % 67108864 = l26) : Spec1 kit 32 [.i .u32 (.ex w)] [] false (.agg [.i .i64 (.lit 44), .i .i64 (.ex x22), .i .i64 (.ex x18), .i .i64 (.ex x14), .i .i64 (.lit 0)]) [] [] := by
  refine Spec1.mk2 rfl fun F => ?_
  refine into I32ok 6 ?_
  conv => cbv
  refine OkCall.by_spec (field_26_6 h0 h1 (v := 45) (by omega)) [] (by decide) (by cbv) trivial ?_
  conv => cbv
  refine Obs.int (.lit 44) (by show (44 : Int) = subI .i64 45 1; rw [subI_eq]; rfl) ?_
  conv => cbv
  refine OkCall.by_spec (field_22_4 h0 h1 hx22) [] (by decide) (by cbv) trivial ?_
  conv => cbv
  refine OkCall.by_spec (field_18_4 h0 h1 hx18) [] (by decide) (by cbv) trivial ?_
  conv => cbv
  refine OkCall.by_spec (field_14_4 h0 h1 hx14) [] (by decide) (by cbv) trivial ?_
  conv => cbv
  refine OkCall.by_spec (field_0_18 h0 h1 (v := l18) (by omega)) [] (by decide) (by cbv) trivial ?_
  conv => cbv
  refine OkCall.by_spec (field_0_22 h0 h1 (v := l22) (by omega)) [] (by decide) (by cbv) trivial ?_
  conv => cbv
  refine OkCall.by_spec (field_0_26 h0 h1 (v := l26) (by omega)) [] (by decide) (by cbv) trivial ?_
  conv => cbv
  refine Br.no (by simp only [leafs, Bool.not_eq_false', Bool.not_eq_true', beq_iff_eq, beq_eq_false_iff_ne, ne_eq]; omega) ?_
  conv => cbv
  exact LeOut.two (LeOut.mk' [0] (by decide) rfl (by decide) (by cbv) (by cbv))
theorem apart_45_bad {w : Int} (h0 : 0 ≤ w) (h1 : w < 4294967296) (hk : w / 67108864 = 45) (hv : w % 67108864 ≠ 0) (x22 x18 x14 l18 l22 l14 l26 : Int) (hx22 : w / 4194304 % 16 = x22) (hx18 : w / 262144 % 16 = x18) (hx14 : w / 16384 % 16 = x14) (hl18 : w % 262144 = l18) (hl22 : w % 4194304 = l22) (hl14 : w % 16384 = l14) (hl26 : w % 67108864 = l26) : Spec1 kit 32 [.i .u32 (.ex w)] [] false (.agg [.i .i64 (.lit (-1)), .i .i64 (.lit 0), .i .i64 (.lit 0), .i .i64 (.lit 0), .i .i64 (.lit 0)]) [] [] := by
  refine Spec1.mk2 rfl fun F => ?_
  refine into I32ok 6 ?_
  conv => cbv
  refine OkCall.by_spec (field_26_6 h0 h1 (v := 45) (by omega)) [] (by decide) (by cbv) trivial ?_
  conv => cbv
  refine Obs.int (.lit 44) (by show (44 : Int) = subI .i64 45 1; rw [subI_eq]; rfl) ?_
  conv => cbv
  refine OkCall.by_spec (field_22_4 h0 h1 hx22) [] (by decide) (by cbv) trivial ?_
  conv => cbv
  refine OkCall.by_spec (field_18_4 h0 h1 hx18) [] (by decide) (by cbv) trivial ?_
  conv => cbv
  refine OkCall.by_spec (field_14_4 h0 h1 hx14) [] (by decide) (by cbv) trivial ?_
  conv => cbv
  refine OkCall.by_spec (field_0_18 h0 h1 (v := l18) (by omega)) [] (by decide) (by cbv) trivial ?_
  conv => cbv
  refine OkCall.by_spec (field_0_22 h0 h1 (v := l22) (by omega)) [] (by decide) (by cbv) trivial ?_
  conv => cbv
  refine OkCall.by_spec (field_0_26 h0 h1 (v := l26) (by omega)) [] (by decide) (by cbv) trivial ?_
  conv => cbv
  refine Br.yes (by simp only [leafs, Bool.not_eq_false', Bool.not_eq_true', beq_iff_eq, beq_eq_false_iff_ne, ne_eq]; omega) ?_
  conv => cbv
  exact LeOut.two (LeOut.mk' [0] (by decide) rfl (by decide) (by cbv) (by cbv))
theorem apart_46 {w : Int} (h0 : 0 ≤ w) (h1 : w < 4294967296) (hk : w / 67108864 = 46) (hv : w % 4194304 = 0) (x22 x18 x14 l18 l22 l14 l26 : Int) (hx22 : w / 4194304 % 16 = x22) (hx18 : w / 262144 % 16 = x18) (hx14 : w / 16384 % 16 = x14) (hl18 : w % 262144 = l18) (hl22 : w % 4194304 = l22) (hl14 : w % 16384 = l14) (hl26 : w % 67108864 = l26) : Spec1 kit 32 [.i .u32 (.ex w)] [] false (.agg [.i .i64 (.lit 45), .i .i64 (.ex x22), .i .i64 (.ex x18), .i .i64 (.ex x14), .i .i64 (.lit 0)]) [] [] := by
  refine Spec1.mk2 rfl fun F => ?_
  refine into I32ok 6 ?_
  conv => cbv
  refine OkCall.by_spec (field_26_6 h0 h1 (v := 46) (by omega)) [] (by decide) (by cbv) trivial ?_
  conv => cbv
  refine Obs.int (.lit 45) (by show (45 : Int) = subI .i64 46 1; rw [subI_eq]; rfl) ?_
  conv => cbv
  refine OkCall.by_spec (field_22_4 h0 h1 hx22) [] (by decide) (by cbv) trivial ?_
  conv => cbv
  refine OkCall.by_spec (field_18_4 h0 h1 hx18) [] (by decide) (by cbv) trivial ?_
  conv => cbv
  refine OkCall.by_spec (field_14_4 h0 h1 hx14) [] (by decide) (by cbv) trivial ?_
  conv => cbv
  refine OkCall.by_spec (field_0_18 h0 h1 (v := l18) (by omega)) [] (by decide) (by cbv) trivial ?_
  conv => cbv
  refine OkCall.by_spec (field_0_22 h0 h1 (v := l22) (by omega)) [] (by decide) (by cbv) trivial ?_
  conv => cbv
  refine Br.no (by simp only [leafs, Bool.not_eq_false', Bool.not_eq_true', beq_iff_eq, beq_eq_false_iff_ne, ne_eq]; omega) ?_
  conv => cbv
  exact LeOut.two (LeOut.mk' [0] (by decide) rfl (by decide) (by cbv) (by cbv))
theorem apart_46_bad {w : Int} (h0 : 0 ≤ w) (h1 : w < 4294967296) (hk : w / 67108864 = 46) (hv : w % 4194304 ≠ 0) (x22 x18 x14 l18 l22 l14 l26 : Int) (hx22 : w / 4194304 % 16 = x22) (hx18 : w / 262144 % 16 = x18) (hx14 : w / 16384 % 16 = x14) (hl18 : w % 262144 = l18) (hl22 : w % 4194304 = l22) (hl14 : w % 16384 = l14) (hl26 : w % 67108864 = l26) : Spec1 kit 32 [.i .u32 (.ex w)] [] false (.agg [.i .i64 (.lit (-1)), .i .i64 (.lit 0), .i .i64 (.lit 0), .i .i64 (.lit 0), .i .i64 (.lit 0)]) [] [] := by
  refine Spec1.mk2 rfl fun F => ?_
  refine into I32ok 6 ?_
  conv => cbv
  refine OkCall.by_spec (field_26_6 h0 h1 (v := 46) (by omega)) [] (by decide) (by cbv) trivial ?_
  conv => cbv
  refine Obs.int (.lit 45) (by show (45 : Int) = subI .i64 46 1; rw [subI_eq]; rfl) ?_
  conv => cbv
  refine OkCall.by_spec (field_22_4 h0 h1 hx22) [] (by decide) (by cbv) trivial ?_
  conv => cbv
  refine OkCall.by_spec (field_18_4 h0 h1 hx18) [] (by decide) (by cbv) trivial ?_
  conv => cbv
  refine OkCall.by_spec (field_14_4 h0 h1 hx14) [] (by decide) (by cbv) trivial ?_
  conv => cbv
  refine OkCall.by_spec (field_0_18 h0 h1 (v := l18) (by omega)) [] (by decide) (by cbv) trivial ?_
  conv => cbv
  refine OkCall.by_spec (field_0_22 h0 h1 (v := l22) (by omega)) [] (by decide) (by cbv) trivial ?_
  conv => cbv
  refine Br.yes (by simp only [leafs, Bool.not_eq_false', Bool.not_eq_true', beq_iff_eq, beq_eq_false_iff_ne, ne_eq]; omega) ?_
  conv => cbv
  exact LeOut.two (LeOut.mk' [0] (by decide) rfl (by decide) (by cbv) (by cbv))
theorem apart_47 {w : Int} (h0 : 0 ≤ w) (h1 : w < 4294967296) (hk : w / 67108864 = 47) (hv : w % 67108864 = 0) (x22 x18 x14 l18 l22 l14 l26 : Int) (hx22 : w / 4194304 % 16 = x22) (hx18 : w / 262144 % 16 = x18) (hx14 : w / 16384 % 16 = x14) (hl18 : w % 262144 = l18) (hl22 : w % 4194304 = l22) (hl14 : w % 16384 = l14) (hl26 : w % 67108864 = l26) : Spec1 kit 32 [.i .u32 (.ex w)] [] false (.agg [.i .i64 (.lit 46), .i .i64 (.ex x22), .i .i64 (.ex x18), .i .i64 (.ex x14), .i .i64 (.lit 0)]) [] [] := by
  refine Spec1.mk2 rfl fun F => ?_
  refine into I32ok 6 ?_
  conv => cbv
  refine OkCall.by_spec (field_26_6 h0 h1 (v := 47) (by omega)) [] (by decide) (by cbv) trivial ?_
  conv => cbv
  refine Obs.int (.lit 46) (by show (46 : Int) = subI .i64 47 1; rw [subI_eq]; rfl) ?_
  conv => cbv
  refine OkCall.by_spec (field_22_4 h0 h1 hx22) [] (by decide) (by cbv) trivial ?_
  conv => cbv
  refine OkCall.by_spec (field_18_4 h0 h1 hx18) [] (by decide) (by cbv) trivial ?_
  conv => cbv
  refine OkCall.by_spec (field_14_4 h0 h1 hx14) [] (by decide) (by cbv) trivial ?_
  conv => cbv
  refine OkCall.by_spec (field_0_18 h0 h1 (v := l18) (by omega)) [] (by decide) (by cbv) trivial ?_
  conv => cbv
  refine OkCall.by_spec (field_0_22 h0 h1 (v := l22) (by omega)) [] (by decide) (by cbv) trivial ?_
  conv => cbv
  refine OkCall.by_spec (field_0_26 h0 h1 (v := l26) (by omega)) [] (by decide) (by cbv) trivial ?_
  conv => cbv
  refine Br.no (by simp only [leafs, Bool.not_eq_false', Bool.not_eq_true', beq_iff_eq, beq_eq_false_iff_ne, ne_eq]; omega) ?_
  conv => cbv
  exact LeOut.two (LeOut.mk' [0] (by decide) rfl (by decide) (by cbv) (by cbv))
theorem apart_47_bad {w : Int} (h0 : 0 ≤ w) (h1 : w < 4294967296) (hk : w / 67108864 = 47) (hv : w % 67108864 ≠ 0) (x22 x18 x14 l18 l22 l14 l26 : Int) (hx22 : w / 4194304 % 16 = x22) (hx18 : w / 262144 % 16 = x18) (hx14 : w / 16384 % 16 = x14) (hl18 : w % 262144 = l18) (hl22 : w % 4194304 = l22) (hl14 : w % 16384 = l14) (hl26 : w % 67108864 = l26) : Spec1 kit 32 [.i .u32 (.ex w)] [] false (.agg [.i .i64 (.lit (-1)), .i .i64 (.lit 0), .i .i64 (.lit 0), .i .i64 (.lit 0), .i .i64 (.lit 0)]) [] [] := by
  refine Spec1.mk2 rfl fun F => ?_
  refine into I32ok 6 ?_
  conv => cbv
  refine OkCall.by_spec (field_26_6 h0 h1 (v := 47) (by omega)) [] (by decide) (by cbv) trivial ?_
  conv => cbv
  refine Obs.int (.lit 46) (by show (46 : Int) = subI .i64 47 1; rw [subI_eq]; rfl) ?_
  conv => cbv
  refine OkCall.by_spec (field_22_4 h0 h1 hx22) [] (by decide) (by cbv) trivial ?_
  conv => cbv
  refine OkCall.by_spec (field_18_4 h0 h1 hx18) [] (by decide) (by cbv) trivial ?_
  conv => cbv
  refine OkCall.by_spec (field_14_4 h0 h1 hx14) [] (by decide) (by cbv) trivial ?_
  conv => cbv
  refine OkCall.by_spec (field_0_18 h0 h1 (v := l18) (by omega)) [] (by decide) (by cbv) trivial ?_
  conv => cbv
  refine OkCall.by_spec (field_0_22 h0 h1 (v := l22) (by omega)) [] (by decide) (by cbv) trivial ?_
  conv => cbv
  refine OkCall.by_spec (field_0_26 h0 h1 (v := l26) (by omega)) [] (by decide) (by cbv) trivial ?_
  conv => cbv
  refine Br.yes (by simp only [leafs, Bool.not_eq_false', Bool.not_eq_true', beq_iff_eq, beq_eq_false_iff_ne, ne_eq]; omega) ?_
  conv => cbv
  exact LeOut.two (LeOut.mk' [0] (by decide) rfl (by decide) (by cbv) (by cbv))
theorem apart_48 {w : Int} (h0 : 0 ≤ w) (h1 : w < 4294967296) (hk : w / 67108864 = 48) (hv : w % 67108864 = 0) (x22 x18 x14 l18 l22 l14 l26 : Int) (hx22 : w / 4194304 % 16 = x22) (hx18 : w / 262144 % 16 = x18) (hx14 : w / 16384 % 16 = x14) (hl18 : w % 262144 = l18) (hl22 : w % 4194304 = l22) (hl14 : w % 16384 = l14) (hl26 : w % 67108864 = l26) : Spec1 kit 32 [.i .u32 (.ex w)] [] false (.agg [.i .i64 (.lit 47), .i .i64 (.ex x22), .i .i64 (.ex x18), .i .i64 (.ex x14), .i .i64 (.lit 0)]) [] [] := by
  refine Spec1.mk2 rfl fun F => ?_
  refine into I32ok 6 ?_
  conv => cbv
  refine OkCall.by_spec (field_26_6 h0 h1 (v := 48) (by omega)) [] (by decide) (by cbv) trivial ?_
  conv => cbv
  refine Obs.int (.lit 47) (by show (47 : Int) = subI .i64 48 1; rw [subI_eq]; rfl) ?_
  conv => cbv
  refine OkCall.by_spec (field_22_4 h0 h1 hx22) [] (by decide) (by cbv) trivial ?_
  conv => cbv
  refine OkCall.by_spec (field_18_4 h0 h1 hx18) [] (by decide) (by cbv) trivial ?_
  conv => cbv
  refine OkCall.by_spec (field_14_4 h0 h1 hx14) [] (by decide) (by cbv) trivial ?_
  conv => cbv
  refine OkCall.by_spec (field_0_18 h0 h1 (v := l18) (by omega)) [] (by decide) (by cbv) trivial ?_
  conv => cbv
  refine OkCall.by_spec (field_0_22 h0 h1 (v := l22) (by omega)) [] (by decide) (by cbv) trivial ?_
  conv => cbv
  refine OkCall.by_spec (field_0_26 h0 h1 (v := l26) (by omega)) [] (by decide) (by cbv) trivial ?_
  conv => cbv
  refine Br.no (by simp only [leafs, Bool.not_eq_false', Bool.not_eq_true', beq_iff_eq, beq_eq_false_iff_ne, ne_eq]; omega) ?_
  conv => cbv
  exact LeOut.two (LeOut.mk' [0] (by decide) rfl (by decide) (by cbv) (by cbv))
theorem apart_48_bad {w : Int} (h0 : 0 ≤ w) (h1 : w < 4294967296) (hk : w / 67108864 = 48) (hv : w % 67108864 ≠ 0) (x22 x18 x14 l18 l22 l14 l26 : Int) (hx22 : w / 4194304 % 16 = x22) (hx18 : w / 262144 % 16 = x18) (hx14 : w / 16384 % 16 = x14) (hl18 : w % 262144 = l18) (hl22 : w % 4194304 = l22) (hl14 : w % 16384 = l14) (hl26 : w % 67108864 = l26) : Spec1 kit 32 [.i .u32 (.ex w)] [] false (.agg [.i .i64 (.lit (-1)), .i .i64 (.lit 0), .i .i64 (.lit 0), .i .i64 (.lit 0), .i .i64 (.lit 0)]) [] [] := by
  refine Spec1.mk2 rfl fun F => ?_
  refine into I32ok 6 ?_
  conv => cbv
  refine OkCall.by_spec (field_26_6 h0 h1 (v := 48) (by omega)) [] (by decide) (by cbv) trivial ?_
  conv => cbv
  refine Obs.int (.lit 47) (by show (47 : Int) = subI .i64 48 1; rw [subI_eq]; rfl) ?_
  conv => cbv
  refine OkCall.by_spec (field_22_4 h0 h1 hx22) [] (by decide) (by cbv) trivial ?_
  conv => cbv
  refine OkCall.by_spec (field_18_4 h0 h1 hx18) [] (by decide) (by cbv) trivial ?_
  conv => cbv
  refine OkCall.by_spec (field_14_4 h0 h1 hx14) [] (by decide) (by cbv) trivial ?_
  conv => cbv
  refine OkCall.by_spec (field_0_18 h0 h1 (v := l18) (by omega)) [] (by decide) (by cbv) trivial ?_
  conv => cbv
  refine OkCall.by_spec (field_0_22 h0 h1 (v := l22) (by omega)) [] (by decide) (by cbv) trivial ?_
  conv => cbv
  refine OkCall.by_spec (field_0_26 h0 h1 (v := l26) (by omega)) [] (by decide) (by cbv) trivial ?_
  conv => cbv
  refine Br.yes (by simp only [leafs, Bool.not_eq_false', Bool.not_eq_true', beq_iff_eq, beq_eq_false_iff_ne, ne_eq]; omega) ?_
  conv => cbv
  exact LeOut.two (LeOut.mk' [0] (by decide) rfl (by decide) (by cbv) (by cbv))
end Go.Proofs.YtkljgpepogkgdaaDoor
