/-
  isa.Decode, form by form.
-/
import Derived.Test.YtkljgpepogkgdaaDoorCO
import Derived.Test.YtkljgpepogkgdaaDoorPB
import Derived.IntWalk
set_option linter.unusedVariables false
set_option linter.unusedSimpArgs false
namespace Go.Proofs.YtkljgpepogkgdaaDoor
open Go Go.Vex
set_option maxRecDepth 20000
set_option maxHeartbeats 4000000
def i64s (l : List Int) : List SV := l.map fun n => .i .i64 (.lit n)
def layoutsL : List SV := i64s [0,0,0,0, 22,18,14,0, 22,18,-1,18, -1,22,18,18, 22,-1,-1,22, 22,-1,-1,0, -1,22,-1,0, -1,-1,-1,26, -1,-1,-1,0]
noncomputable def I21 : FnT := [(21, fi Tryd.f21 ⟨[57, 8, 11], 4⟩), (42, fi Tryd.f42 ⟨[], 0⟩)]
theorem I21ok : FnsOk kit I21 := ⟨fo21 _, fo42 _, trivial⟩
abbrev OfIs (op : S Int) (nm : ByteArray) (form num : Int) (shp : Int) : Prop := Spec1 kit 41 [.i .i64 op] [] false (.tup [.agg [.str nm, .i .i64 (.lit form), .i .i64 (.lit num), .i .i64 (.ex shp)], .b (.lit true)]) [] []
theorem op_of {w : Int} (h0 : 0 ≤ w) (h1 : w < 4294967296) : IntKind.i64.wrap (w.fdiv (2 ^ min (Int.toNat 26) IntKind.u32.bits)) = w / 67108864 := by
  have : (2 : Int) ^ min (Int.toNat 26) IntKind.u32.bits = 67108864 := by decide
  rw [this, Int.fdiv_eq_ediv_of_nonneg _ (by decide)]
  exact IntWalk.i64_in _ (by omega)
theorem rest_of {w : Int} (h0 : 0 ≤ w) (h1 : w < 4294967296) : andI .u32 w 67108863 = w % 67108864 := mask_u32 26 (by decide) h0 h1
theorem clr22 {w : Int} : clrI .u32 (w % 67108864) 62914560 = w % 4194304 := by
  have := clr_u32 (a := w % 67108864) 22 (by decide) (by omega) (by omega)
  simp only [show (15 * 2 ^ 22 : Nat) = 62914560 by decide, show (2 ^ 22 : Nat) = 4194304 by decide] at this
  rw [show ((62914560 : Int)) = ((62914560 : Nat) : Int) by rfl, this]; omega
theorem clr18 {w : Int} : clrI .u32 (w % 4194304) 3932160 = w % 262144 := by
  have := clr_u32 (a := w % 4194304) 18 (by decide) (by omega) (by omega)
  simp only [show (15 * 2 ^ 18 : Nat) = 3932160 by decide, show (2 ^ 18 : Nat) = 262144 by decide] at this
  rw [show ((3932160 : Int)) = ((3932160 : Nat) : Int) by rfl, this]; omega
theorem clr14 {w : Int} : clrI .u32 (w % 262144) 245760 = w % 16384 := by
  have := clr_u32 (a := w % 262144) 14 (by decide) (by omega) (by omega)
  simp only [show (15 * 2 ^ 14 : Nat) = 245760 by decide, show (2 ^ 14 : Nat) = 16384 by decide] at this
  rw [show ((245760 : Int)) = ((245760 : Nat) : Int) by rfl, this]; omega
theorem fld22 {w : Int} : convI .u8 (andI .u32 (shrI .u32 (w % 67108864) 22) 15) = w / 4194304 % 16 := by
  have e1 : shrI .u32 (w % 67108864) 22 = w % 67108864 / 4194304 := shrI_u32 _ 22 (by decide)
  have e2 : andI .u32 (w % 67108864 / 4194304) 15 = w % 67108864 / 4194304 % 16 := mask_u32 4 (by decide) (by omega) (by omega)
  rw [e1, e2, convI_eq, wrap_u8]; omega
theorem fld18 {w : Int} : convI .u8 (andI .u32 (shrI .u32 (w % 4194304) 18) 15) = w / 262144 % 16 := by
  have e1 : shrI .u32 (w % 4194304) 18 = w % 4194304 / 262144 := shrI_u32 _ 18 (by decide)
  have e2 : andI .u32 (w % 4194304 / 262144) 15 = w % 4194304 / 262144 % 16 := mask_u32 4 (by decide) (by omega) (by omega)
  rw [e1, e2, convI_eq, wrap_u8]; omega
theorem fld14 {w : Int} : convI .u8 (andI .u32 (shrI .u32 (w % 262144) 14) 15) = w / 16384 % 16 := by
  have e1 : shrI .u32 (w % 262144) 14 = w % 262144 / 16384 := shrI_u32 _ 14 (by decide)
  have e2 : andI .u32 (w % 262144 / 16384) 15 = w % 262144 / 16384 % 16 := mask_u32 4 (by decide) (by omega) (by omega)
  rw [e1, e2, convI_eq, wrap_u8]; omega
theorem dec_dab (w : Int) (op : S Int) (nm : ByteArray) (shp : Int) (h : OfIs op nm 1 0 shp) (h0 : 0 ≤ w) (h1 : w < 4294967296) (hop : op.val = w / 67108864) (hv : w % 16384 = 0) : Spec1 kit 21 [.i .u32 (.ex w)] [.glob 0 layoutsL] false (.tup [.agg [.i .i64 op, .i .u8 (.ex (w / 4194304 % 16)), .i .u8 (.ex (w / 262144 % 16)), .i .u8 (.ex (w / 16384 % 16)), .i .i32 (.ex 0)], .i .i64 (.lit 0)]) [.glob 0 layoutsL] [] := by
  obtain ⟨r26, hr26⟩ : ∃ x, w % 67108864 = x := ⟨_, rfl⟩
  obtain ⟨r22, hr22⟩ : ∃ x, w % 4194304 = x := ⟨_, rfl⟩
  obtain ⟨r18, hr18⟩ : ∃ x, w % 262144 = x := ⟨_, rfl⟩
  obtain ⟨r14, hr14⟩ : ∃ x, w % 16384 = x := ⟨_, rfl⟩
  obtain ⟨x22, hx22⟩ : ∃ x, w / 4194304 % 16 = x := ⟨_, rfl⟩
  obtain ⟨x18, hx18⟩ : ∃ x, w / 262144 % 16 = x := ⟨_, rfl⟩
  obtain ⟨x14, hx14⟩ : ∃ x, w / 16384 % 16 = x := ⟨_, rfl⟩
  try simp only [hr26, hr22, hr18, hr14, hx22, hx18, hx14]
  refine Spec1.mk2 rfl fun F => ?_
  refine into I21ok 6 ?_
  conv => cbv
  refine OkCall.by_spec h [] (by decide) ?_ trivial ?_
  · conv => cbv
    simp only [leafs]
    exact ⟨hop.trans (op_of h0 h1).symm, trivial⟩
  conv => cbv
  refine Obs.int (.ex r26) (by rw [← hr26]; exact (rest_of h0 h1).symm) ?_
  conv => cbv
  refine Obs.int (.ex x22) (by rw [← hr26, ← hx22]; exact fld22.symm) ?_
  conv => cbv
  refine Obs.int (.ex r22) (by rw [← hr26, ← hr22]; exact clr22.symm) ?_
  conv => cbv
  refine Obs.int (.ex x18) (by rw [← hr22, ← hx18]; exact fld18.symm) ?_
  conv => cbv
  refine Obs.int (.ex r18) (by rw [← hr22, ← hr18]; exact clr18.symm) ?_
  conv => cbv
  refine Obs.int (.ex x14) (by rw [← hr18, ← hx14]; exact fld14.symm) ?_
  conv => cbv
  refine Obs.int (.ex r14) (by rw [← hr18, ← hr14]; exact clr14.symm) ?_
  conv => cbv
  refine Br.no (by simp only [leafs, decide_eq_false_iff_not]; omega) ?_
  conv => cbv
  refine Obs.int (.ex r14) (by show r14 = convI .i64 r14; rw [convI_eq, IntWalk.i64_in _ (by omega)]) ?_
  conv => cbv
  refine Br.no (by simp only [leafs, Bool.not_eq_false', beq_iff_eq]; omega) ?_
  conv => cbv
  refine (LeOut.mk' [0, 1] (by decide) rfl id ?_ (by cbv)).two
  conv => cbv
  exact ⟨⟨by show op.val = convI .i64 (shrI .u32 w 26); rw [hop, convI_eq, shrI_eq]; exact (op_of h0 h1).symm, by show (0 : Int) = convI .i32 r14; rw [convI_eq, wrap_i32]; omega, trivial⟩, trivial⟩

theorem dec_dab_bad (w : Int) (op : S Int) (nm : ByteArray) (shp : Int) (h : OfIs op nm 1 0 shp) (h0 : 0 ≤ w) (h1 : w < 4294967296) (hop : op.val = w / 67108864) (hv : w % 16384 ≠ 0) : Spec1 kit 21 [.i .u32 (.ex w)] [.glob 0 layoutsL] false (.tup [.agg [.i .i64 (.lit 0), .i .u8 (.lit 0), .i .u8 (.lit 0), .i .u8 (.lit 0), .i .i32 (.lit 0)], .i .i64 (.lit 103)]) [.glob 0 layoutsL] [] := by
  obtain ⟨r26, hr26⟩ : ∃ x, w % 67108864 = x := ⟨_, rfl⟩
  obtain ⟨r22, hr22⟩ : ∃ x, w % 4194304 = x := ⟨_, rfl⟩
  obtain ⟨r18, hr18⟩ : ∃ x, w % 262144 = x := ⟨_, rfl⟩
  obtain ⟨r14, hr14⟩ : ∃ x, w % 16384 = x := ⟨_, rfl⟩
  obtain ⟨x22, hx22⟩ : ∃ x, w / 4194304 % 16 = x := ⟨_, rfl⟩
  obtain ⟨x18, hx18⟩ : ∃ x, w / 262144 % 16 = x := ⟨_, rfl⟩
  obtain ⟨x14, hx14⟩ : ∃ x, w / 16384 % 16 = x := ⟨_, rfl⟩
  try simp only [hr26, hr22, hr18, hr14, hx22, hx18, hx14]
  refine Spec1.mk2 rfl fun F => ?_
  refine into I21ok 6 ?_
  conv => cbv
  refine OkCall.by_spec h [] (by decide) ?_ trivial ?_
  · conv => cbv
    simp only [leafs]
    exact ⟨hop.trans (op_of h0 h1).symm, trivial⟩
  conv => cbv
  refine Obs.int (.ex r26) (by rw [← hr26]; exact (rest_of h0 h1).symm) ?_
  conv => cbv
  refine Obs.int (.ex x22) (by rw [← hr26, ← hx22]; exact fld22.symm) ?_
  conv => cbv
  refine Obs.int (.ex r22) (by rw [← hr26, ← hr22]; exact clr22.symm) ?_
  conv => cbv
  refine Obs.int (.ex x18) (by rw [← hr22, ← hx18]; exact fld18.symm) ?_
  conv => cbv
  refine Obs.int (.ex r18) (by rw [← hr22, ← hr18]; exact clr18.symm) ?_
  conv => cbv
  refine Obs.int (.ex x14) (by rw [← hr18, ← hx14]; exact fld14.symm) ?_
  conv => cbv
  refine Obs.int (.ex r14) (by rw [← hr18, ← hr14]; exact clr14.symm) ?_
  conv => cbv
  refine Br.yes (by simp only [leafs, decide_eq_true_eq]; omega) ?_
  conv => cbv
  refine (LeOut.mk' [0, 1] (by decide) rfl id (by cbv) (by cbv)).two

theorem dec_dais (w : Int) (op : S Int) (nm : ByteArray) (shp : Int) (h : OfIs op nm 2 1 shp) (h0 : 0 ≤ w) (h1 : w < 4294967296) (hop : op.val = w / 67108864) (i : Int) (hi : i = if 131072 ≤ w % 262144 then w % 262144 - 262144 else w % 262144) : Spec1 kit 21 [.i .u32 (.ex w)] [.glob 0 layoutsL] false (.tup [.agg [.i .i64 op, .i .u8 (.ex (w / 4194304 % 16)), .i .u8 (.ex (w / 262144 % 16)), .i .u8 (.ex 0), .i .i32 (.ex i)], .i .i64 (.lit 0)]) [.glob 0 layoutsL] [] := by
  obtain ⟨r26, hr26⟩ : ∃ x, w % 67108864 = x := ⟨_, rfl⟩
  obtain ⟨r22, hr22⟩ : ∃ x, w % 4194304 = x := ⟨_, rfl⟩
  obtain ⟨r18, hr18⟩ : ∃ x, w % 262144 = x := ⟨_, rfl⟩
  obtain ⟨r14, hr14⟩ : ∃ x, w % 16384 = x := ⟨_, rfl⟩
  obtain ⟨x22, hx22⟩ : ∃ x, w / 4194304 % 16 = x := ⟨_, rfl⟩
  obtain ⟨x18, hx18⟩ : ∃ x, w / 262144 % 16 = x := ⟨_, rfl⟩
  obtain ⟨x14, hx14⟩ : ∃ x, w / 16384 % 16 = x := ⟨_, rfl⟩
  try simp only [hr26, hr22, hr18, hr14, hx22, hx18, hx14]
  refine Spec1.mk2 rfl fun F => ?_
  refine into I21ok 6 ?_
  conv => cbv
  refine OkCall.by_spec h [] (by decide) ?_ trivial ?_
  · conv => cbv
    simp only [leafs]
    exact ⟨hop.trans (op_of h0 h1).symm, trivial⟩
  conv => cbv
  refine Obs.int (.ex r26) (by rw [← hr26]; exact (rest_of h0 h1).symm) ?_
  conv => cbv
  refine Obs.int (.ex x22) (by rw [← hr26, ← hx22]; exact fld22.symm) ?_
  conv => cbv
  refine Obs.int (.ex r22) (by rw [← hr26, ← hr22]; exact clr22.symm) ?_
  conv => cbv
  refine Obs.int (.ex x18) (by rw [← hr22, ← hx18]; exact fld18.symm) ?_
  conv => cbv
  refine Obs.int (.ex r18) (by rw [← hr22, ← hr18]; exact clr18.symm) ?_
  conv => cbv
  refine Br.no (by simp only [leafs, decide_eq_false_iff_not]; omega) ?_
  conv => cbv
  refine Obs.int (.ex r18) (by show r18 = convI .i64 r18; rw [convI_eq, IntWalk.i64_in _ (by omega)]) ?_
  conv => cbv
  refine Br.mk (fun hc => ?_) (fun hc => ?_)
  · simp only [leafs, decide_eq_true_eq] at hc
    obtain ⟨n, hn⟩ : ∃ x, r18 - 262144 = x := ⟨_, rfl⟩
    conv => cbv
    refine Obs.int (.ex n) (by show n = subI .i64 r18 262144; rw [subI_eq, IntWalk.i64_in _ (by omega), hn]) ?_
    conv => cbv
    refine Br.yes (by simp only [leafs, decide_eq_true_eq]; omega) ?_
    conv => cbv
    refine Br.no (by simp only [leafs, Bool.not_eq_false', decide_eq_true_eq]; omega) ?_
    conv => cbv
    refine (LeOut.mk' [0, 1] (by decide) rfl id ?_ (by cbv)).two
    conv => cbv
    exact ⟨⟨by show op.val = convI .i64 (shrI .u32 w 26); rw [hop, convI_eq, shrI_eq]; exact (op_of h0 h1).symm, by show i = convI .i32 n; rw [convI_eq, wrap_i32, hi]; omega, trivial⟩, trivial⟩
  · simp only [leafs, decide_eq_false_iff_not] at hc
    conv => cbv
    refine Br.yes (by simp only [leafs, decide_eq_true_eq]; omega) ?_
    conv => cbv
    refine Br.no (by simp only [leafs, Bool.not_eq_false', decide_eq_true_eq]; omega) ?_
    conv => cbv
    refine (LeOut.mk' [0, 1] (by decide) rfl id ?_ (by cbv)).two
    conv => cbv
    exact ⟨⟨by show op.val = convI .i64 (shrI .u32 w 26); rw [hop, convI_eq, shrI_eq]; exact (op_of h0 h1).symm, by show i = convI .i32 r18; rw [convI_eq, wrap_i32, hi]; omega, trivial⟩, trivial⟩

theorem dec_daiu (w : Int) (op : S Int) (nm : ByteArray) (shp : Int) (h : OfIs op nm 2 2 shp) (h0 : 0 ≤ w) (h1 : w < 4294967296) (hop : op.val = w / 67108864) : Spec1 kit 21 [.i .u32 (.ex w)] [.glob 0 layoutsL] false (.tup [.agg [.i .i64 op, .i .u8 (.ex (w / 4194304 % 16)), .i .u8 (.ex (w / 262144 % 16)), .i .u8 (.ex 0), .i .i32 (.ex (w % 262144))], .i .i64 (.lit 0)]) [.glob 0 layoutsL] [] := by
  obtain ⟨r26, hr26⟩ : ∃ x, w % 67108864 = x := ⟨_, rfl⟩
  obtain ⟨r22, hr22⟩ : ∃ x, w % 4194304 = x := ⟨_, rfl⟩
  obtain ⟨r18, hr18⟩ : ∃ x, w % 262144 = x := ⟨_, rfl⟩
  obtain ⟨r14, hr14⟩ : ∃ x, w % 16384 = x := ⟨_, rfl⟩
  obtain ⟨x22, hx22⟩ : ∃ x, w / 4194304 % 16 = x := ⟨_, rfl⟩
  obtain ⟨x18, hx18⟩ : ∃ x, w / 262144 % 16 = x := ⟨_, rfl⟩
  obtain ⟨x14, hx14⟩ : ∃ x, w / 16384 % 16 = x := ⟨_, rfl⟩
  try simp only [hr26, hr22, hr18, hr14, hx22, hx18, hx14]
  refine Spec1.mk2 rfl fun F => ?_
  refine into I21ok 6 ?_
  conv => cbv
  refine OkCall.by_spec h [] (by decide) ?_ trivial ?_
  · conv => cbv
    simp only [leafs]
    exact ⟨hop.trans (op_of h0 h1).symm, trivial⟩
  conv => cbv
  refine Obs.int (.ex r26) (by rw [← hr26]; exact (rest_of h0 h1).symm) ?_
  conv => cbv
  refine Obs.int (.ex x22) (by rw [← hr26, ← hx22]; exact fld22.symm) ?_
  conv => cbv
  refine Obs.int (.ex r22) (by rw [← hr26, ← hr22]; exact clr22.symm) ?_
  conv => cbv
  refine Obs.int (.ex x18) (by rw [← hr22, ← hx18]; exact fld18.symm) ?_
  conv => cbv
  refine Obs.int (.ex r18) (by rw [← hr22, ← hr18]; exact clr18.symm) ?_
  conv => cbv
  refine Br.no (by simp only [leafs, decide_eq_false_iff_not]; omega) ?_
  conv => cbv
  refine Obs.int (.ex r18) (by show r18 = convI .i64 r18; rw [convI_eq, IntWalk.i64_in _ (by omega)]) ?_
  conv => cbv
  refine Br.yes (by simp only [leafs, decide_eq_true_eq]; omega) ?_
  conv => cbv
  refine Br.no (by simp only [leafs, Bool.not_eq_false', decide_eq_true_eq]; omega) ?_
  conv => cbv
  refine (LeOut.mk' [0, 1] (by decide) rfl id ?_ (by cbv)).two
  conv => cbv
  exact ⟨⟨by show op.val = convI .i64 (shrI .u32 w 26); rw [hop, convI_eq, shrI_eq]; exact (op_of h0 h1).symm, by show r18 = convI .i32 r18; rw [convI_eq, wrap_i32]; omega, trivial⟩, trivial⟩

theorem dec_dain (w : Int) (op : S Int) (nm : ByteArray) (shp : Int) (h : OfIs op nm 2 3 shp) (h0 : 0 ≤ w) (h1 : w < 4294967296) (hop : op.val = w / 67108864) (hv : w % 262144 ≤ 31) : Spec1 kit 21 [.i .u32 (.ex w)] [.glob 0 layoutsL] false (.tup [.agg [.i .i64 op, .i .u8 (.ex (w / 4194304 % 16)), .i .u8 (.ex (w / 262144 % 16)), .i .u8 (.ex 0), .i .i32 (.ex (w % 262144))], .i .i64 (.lit 0)]) [.glob 0 layoutsL] [] := by
  obtain ⟨r26, hr26⟩ : ∃ x, w % 67108864 = x := ⟨_, rfl⟩
  obtain ⟨r22, hr22⟩ : ∃ x, w % 4194304 = x := ⟨_, rfl⟩
  obtain ⟨r18, hr18⟩ : ∃ x, w % 262144 = x := ⟨_, rfl⟩
  obtain ⟨r14, hr14⟩ : ∃ x, w % 16384 = x := ⟨_, rfl⟩
  obtain ⟨x22, hx22⟩ : ∃ x, w / 4194304 % 16 = x := ⟨_, rfl⟩
  obtain ⟨x18, hx18⟩ : ∃ x, w / 262144 % 16 = x := ⟨_, rfl⟩
  obtain ⟨x14, hx14⟩ : ∃ x, w / 16384 % 16 = x := ⟨_, rfl⟩
  try simp only [hr26, hr22, hr18, hr14, hx22, hx18, hx14]
  refine Spec1.mk2 rfl fun F => ?_
  refine into I21ok 6 ?_
  conv => cbv
  refine OkCall.by_spec h [] (by decide) ?_ trivial ?_
  · conv => cbv
    simp only [leafs]
    exact ⟨hop.trans (op_of h0 h1).symm, trivial⟩
  conv => cbv
  refine Obs.int (.ex r26) (by rw [← hr26]; exact (rest_of h0 h1).symm) ?_
  conv => cbv
  refine Obs.int (.ex x22) (by rw [← hr26, ← hx22]; exact fld22.symm) ?_
  conv => cbv
  refine Obs.int (.ex r22) (by rw [← hr26, ← hr22]; exact clr22.symm) ?_
  conv => cbv
  refine Obs.int (.ex x18) (by rw [← hr22, ← hx18]; exact fld18.symm) ?_
  conv => cbv
  refine Obs.int (.ex r18) (by rw [← hr22, ← hr18]; exact clr18.symm) ?_
  conv => cbv
  refine Br.no (by simp only [leafs, decide_eq_false_iff_not]; omega) ?_
  conv => cbv
  refine Obs.int (.ex r18) (by show r18 = convI .i64 r18; rw [convI_eq, IntWalk.i64_in _ (by omega)]) ?_
  conv => cbv
  refine Br.yes (by simp only [leafs, decide_eq_true_eq]; omega) ?_
  conv => cbv
  refine Br.no (by simp only [leafs, Bool.not_eq_false', decide_eq_true_eq]; omega) ?_
  conv => cbv
  refine (LeOut.mk' [0, 1] (by decide) rfl id ?_ (by cbv)).two
  conv => cbv
  exact ⟨⟨by show op.val = convI .i64 (shrI .u32 w 26); rw [hop, convI_eq, shrI_eq]; exact (op_of h0 h1).symm, by show r18 = convI .i32 r18; rw [convI_eq, wrap_i32]; omega, trivial⟩, trivial⟩

theorem dec_dain_bad (w : Int) (op : S Int) (nm : ByteArray) (shp : Int) (h : OfIs op nm 2 3 shp) (h0 : 0 ≤ w) (h1 : w < 4294967296) (hop : op.val = w / 67108864) (hv : 31 < w % 262144) : Spec1 kit 21 [.i .u32 (.ex w)] [.glob 0 layoutsL] false (.tup [.agg [.i .i64 (.lit 0), .i .u8 (.lit 0), .i .u8 (.lit 0), .i .u8 (.lit 0), .i .i32 (.lit 0)], .i .i64 (.lit 102)]) [.glob 0 layoutsL] [] := by
  obtain ⟨r26, hr26⟩ : ∃ x, w % 67108864 = x := ⟨_, rfl⟩
  obtain ⟨r22, hr22⟩ : ∃ x, w % 4194304 = x := ⟨_, rfl⟩
  obtain ⟨r18, hr18⟩ : ∃ x, w % 262144 = x := ⟨_, rfl⟩
  obtain ⟨r14, hr14⟩ : ∃ x, w % 16384 = x := ⟨_, rfl⟩
  obtain ⟨x22, hx22⟩ : ∃ x, w / 4194304 % 16 = x := ⟨_, rfl⟩
  obtain ⟨x18, hx18⟩ : ∃ x, w / 262144 % 16 = x := ⟨_, rfl⟩
  obtain ⟨x14, hx14⟩ : ∃ x, w / 16384 % 16 = x := ⟨_, rfl⟩
  try simp only [hr26, hr22, hr18, hr14, hx22, hx18, hx14]
  refine Spec1.mk2 rfl fun F => ?_
  refine into I21ok 6 ?_
  conv => cbv
  refine OkCall.by_spec h [] (by decide) ?_ trivial ?_
  · conv => cbv
    simp only [leafs]
    exact ⟨hop.trans (op_of h0 h1).symm, trivial⟩
  conv => cbv
  refine Obs.int (.ex r26) (by rw [← hr26]; exact (rest_of h0 h1).symm) ?_
  conv => cbv
  refine Obs.int (.ex x22) (by rw [← hr26, ← hx22]; exact fld22.symm) ?_
  conv => cbv
  refine Obs.int (.ex r22) (by rw [← hr26, ← hr22]; exact clr22.symm) ?_
  conv => cbv
  refine Obs.int (.ex x18) (by rw [← hr22, ← hx18]; exact fld18.symm) ?_
  conv => cbv
  refine Obs.int (.ex r18) (by rw [← hr22, ← hr18]; exact clr18.symm) ?_
  conv => cbv
  refine Br.no (by simp only [leafs, decide_eq_false_iff_not]; omega) ?_
  conv => cbv
  refine Obs.int (.ex r18) (by show r18 = convI .i64 r18; rw [convI_eq, IntWalk.i64_in _ (by omega)]) ?_
  conv => cbv
  refine Br.yes (by simp only [leafs, decide_eq_true_eq]; omega) ?_
  conv => cbv
  refine Br.yes (by simp only [leafs, Bool.not_eq_true', decide_eq_false_iff_not]; omega) ?_
  conv => cbv
  refine (LeOut.mk' [0, 1] (by decide) rfl id (by cbv) (by cbv)).two

theorem dec_abis (w : Int) (op : S Int) (nm : ByteArray) (shp : Int) (h : OfIs op nm 3 1 shp) (h0 : 0 ≤ w) (h1 : w < 4294967296) (hop : op.val = w / 67108864) (i : Int) (hi : i = if 131072 ≤ w % 262144 then w % 262144 - 262144 else w % 262144) : Spec1 kit 21 [.i .u32 (.ex w)] [.glob 0 layoutsL] false (.tup [.agg [.i .i64 op, .i .u8 (.ex 0), .i .u8 (.ex (w / 4194304 % 16)), .i .u8 (.ex (w / 262144 % 16)), .i .i32 (.ex i)], .i .i64 (.lit 0)]) [.glob 0 layoutsL] [] := by
  obtain ⟨r26, hr26⟩ : ∃ x, w % 67108864 = x := ⟨_, rfl⟩
  obtain ⟨r22, hr22⟩ : ∃ x, w % 4194304 = x := ⟨_, rfl⟩
  obtain ⟨r18, hr18⟩ : ∃ x, w % 262144 = x := ⟨_, rfl⟩
  obtain ⟨r14, hr14⟩ : ∃ x, w % 16384 = x := ⟨_, rfl⟩
  obtain ⟨x22, hx22⟩ : ∃ x, w / 4194304 % 16 = x := ⟨_, rfl⟩
  obtain ⟨x18, hx18⟩ : ∃ x, w / 262144 % 16 = x := ⟨_, rfl⟩
  obtain ⟨x14, hx14⟩ : ∃ x, w / 16384 % 16 = x := ⟨_, rfl⟩
  try simp only [hr26, hr22, hr18, hr14, hx22, hx18, hx14]
  refine Spec1.mk2 rfl fun F => ?_
  refine into I21ok 6 ?_
  conv => cbv
  refine OkCall.by_spec h [] (by decide) ?_ trivial ?_
  · conv => cbv
    simp only [leafs]
    exact ⟨hop.trans (op_of h0 h1).symm, trivial⟩
  conv => cbv
  refine Obs.int (.ex r26) (by rw [← hr26]; exact (rest_of h0 h1).symm) ?_
  conv => cbv
  refine Obs.int (.ex x22) (by rw [← hr26, ← hx22]; exact fld22.symm) ?_
  conv => cbv
  refine Obs.int (.ex r22) (by rw [← hr26, ← hr22]; exact clr22.symm) ?_
  conv => cbv
  refine Obs.int (.ex x18) (by rw [← hr22, ← hx18]; exact fld18.symm) ?_
  conv => cbv
  refine Obs.int (.ex r18) (by rw [← hr22, ← hr18]; exact clr18.symm) ?_
  conv => cbv
  refine Br.no (by simp only [leafs, decide_eq_false_iff_not]; omega) ?_
  conv => cbv
  refine Obs.int (.ex r18) (by show r18 = convI .i64 r18; rw [convI_eq, IntWalk.i64_in _ (by omega)]) ?_
  conv => cbv
  refine Br.mk (fun hc => ?_) (fun hc => ?_)
  · simp only [leafs, decide_eq_true_eq] at hc
    obtain ⟨n, hn⟩ : ∃ x, r18 - 262144 = x := ⟨_, rfl⟩
    conv => cbv
    refine Obs.int (.ex n) (by show n = subI .i64 r18 262144; rw [subI_eq, IntWalk.i64_in _ (by omega), hn]) ?_
    conv => cbv
    refine Br.yes (by simp only [leafs, decide_eq_true_eq]; omega) ?_
    conv => cbv
    refine Br.no (by simp only [leafs, Bool.not_eq_false', decide_eq_true_eq]; omega) ?_
    conv => cbv
    refine (LeOut.mk' [0, 1] (by decide) rfl id ?_ (by cbv)).two
    conv => cbv
    exact ⟨⟨by show op.val = convI .i64 (shrI .u32 w 26); rw [hop, convI_eq, shrI_eq]; exact (op_of h0 h1).symm, by show i = convI .i32 n; rw [convI_eq, wrap_i32, hi]; omega, trivial⟩, trivial⟩
  · simp only [leafs, decide_eq_false_iff_not] at hc
    conv => cbv
    refine Br.yes (by simp only [leafs, decide_eq_true_eq]; omega) ?_
    conv => cbv
    refine Br.no (by simp only [leafs, Bool.not_eq_false', decide_eq_true_eq]; omega) ?_
    conv => cbv
    refine (LeOut.mk' [0, 1] (by decide) rfl id ?_ (by cbv)).two
    conv => cbv
    exact ⟨⟨by show op.val = convI .i64 (shrI .u32 w 26); rw [hop, convI_eq, shrI_eq]; exact (op_of h0 h1).symm, by show i = convI .i32 r18; rw [convI_eq, wrap_i32, hi]; omega, trivial⟩, trivial⟩

theorem dec_dis (w : Int) (op : S Int) (nm : ByteArray) (shp : Int) (h : OfIs op nm 4 1 shp) (h0 : 0 ≤ w) (h1 : w < 4294967296) (hop : op.val = w / 67108864) (i : Int) (hi : i = if 2097152 ≤ w % 4194304 then w % 4194304 - 4194304 else w % 4194304) : Spec1 kit 21 [.i .u32 (.ex w)] [.glob 0 layoutsL] false (.tup [.agg [.i .i64 op, .i .u8 (.ex (w / 4194304 % 16)), .i .u8 (.ex 0), .i .u8 (.ex 0), .i .i32 (.ex i)], .i .i64 (.lit 0)]) [.glob 0 layoutsL] [] := by
  obtain ⟨r26, hr26⟩ : ∃ x, w % 67108864 = x := ⟨_, rfl⟩
  obtain ⟨r22, hr22⟩ : ∃ x, w % 4194304 = x := ⟨_, rfl⟩
  obtain ⟨r18, hr18⟩ : ∃ x, w % 262144 = x := ⟨_, rfl⟩
  obtain ⟨r14, hr14⟩ : ∃ x, w % 16384 = x := ⟨_, rfl⟩
  obtain ⟨x22, hx22⟩ : ∃ x, w / 4194304 % 16 = x := ⟨_, rfl⟩
  obtain ⟨x18, hx18⟩ : ∃ x, w / 262144 % 16 = x := ⟨_, rfl⟩
  obtain ⟨x14, hx14⟩ : ∃ x, w / 16384 % 16 = x := ⟨_, rfl⟩
  try simp only [hr26, hr22, hr18, hr14, hx22, hx18, hx14]
  refine Spec1.mk2 rfl fun F => ?_
  refine into I21ok 6 ?_
  conv => cbv
  refine OkCall.by_spec h [] (by decide) ?_ trivial ?_
  · conv => cbv
    simp only [leafs]
    exact ⟨hop.trans (op_of h0 h1).symm, trivial⟩
  conv => cbv
  refine Obs.int (.ex r26) (by rw [← hr26]; exact (rest_of h0 h1).symm) ?_
  conv => cbv
  refine Obs.int (.ex x22) (by rw [← hr26, ← hx22]; exact fld22.symm) ?_
  conv => cbv
  refine Obs.int (.ex r22) (by rw [← hr26, ← hr22]; exact clr22.symm) ?_
  conv => cbv
  refine Br.no (by simp only [leafs, decide_eq_false_iff_not]; omega) ?_
  conv => cbv
  refine Obs.int (.ex r22) (by show r22 = convI .i64 r22; rw [convI_eq, IntWalk.i64_in _ (by omega)]) ?_
  conv => cbv
  refine Br.mk (fun hc => ?_) (fun hc => ?_)
  · simp only [leafs, decide_eq_true_eq] at hc
    obtain ⟨n, hn⟩ : ∃ x, r22 - 4194304 = x := ⟨_, rfl⟩
    conv => cbv
    refine Obs.int (.ex n) (by show n = subI .i64 r22 4194304; rw [subI_eq, IntWalk.i64_in _ (by omega), hn]) ?_
    conv => cbv
    refine Br.yes (by simp only [leafs, decide_eq_true_eq]; omega) ?_
    conv => cbv
    refine Br.no (by simp only [leafs, Bool.not_eq_false', decide_eq_true_eq]; omega) ?_
    conv => cbv
    refine (LeOut.mk' [0, 1] (by decide) rfl id ?_ (by cbv)).two
    conv => cbv
    exact ⟨⟨by show op.val = convI .i64 (shrI .u32 w 26); rw [hop, convI_eq, shrI_eq]; exact (op_of h0 h1).symm, by show i = convI .i32 n; rw [convI_eq, wrap_i32, hi]; omega, trivial⟩, trivial⟩
  · simp only [leafs, decide_eq_false_iff_not] at hc
    conv => cbv
    refine Br.yes (by simp only [leafs, decide_eq_true_eq]; omega) ?_
    conv => cbv
    refine Br.no (by simp only [leafs, Bool.not_eq_false', decide_eq_true_eq]; omega) ?_
    conv => cbv
    refine (LeOut.mk' [0, 1] (by decide) rfl id ?_ (by cbv)).two
    conv => cbv
    exact ⟨⟨by show op.val = convI .i64 (shrI .u32 w 26); rw [hop, convI_eq, shrI_eq]; exact (op_of h0 h1).symm, by show i = convI .i32 r22; rw [convI_eq, wrap_i32, hi]; omega, trivial⟩, trivial⟩

theorem dec_diu (w : Int) (op : S Int) (nm : ByteArray) (shp : Int) (h : OfIs op nm 4 2 shp) (h0 : 0 ≤ w) (h1 : w < 4294967296) (hop : op.val = w / 67108864) (hv : w % 4194304 < 262144) : Spec1 kit 21 [.i .u32 (.ex w)] [.glob 0 layoutsL] false (.tup [.agg [.i .i64 op, .i .u8 (.ex (w / 4194304 % 16)), .i .u8 (.ex 0), .i .u8 (.ex 0), .i .i32 (.ex (w % 4194304))], .i .i64 (.lit 0)]) [.glob 0 layoutsL] [] := by
  obtain ⟨r26, hr26⟩ : ∃ x, w % 67108864 = x := ⟨_, rfl⟩
  obtain ⟨r22, hr22⟩ : ∃ x, w % 4194304 = x := ⟨_, rfl⟩
  obtain ⟨r18, hr18⟩ : ∃ x, w % 262144 = x := ⟨_, rfl⟩
  obtain ⟨r14, hr14⟩ : ∃ x, w % 16384 = x := ⟨_, rfl⟩
  obtain ⟨x22, hx22⟩ : ∃ x, w / 4194304 % 16 = x := ⟨_, rfl⟩
  obtain ⟨x18, hx18⟩ : ∃ x, w / 262144 % 16 = x := ⟨_, rfl⟩
  obtain ⟨x14, hx14⟩ : ∃ x, w / 16384 % 16 = x := ⟨_, rfl⟩
  try simp only [hr26, hr22, hr18, hr14, hx22, hx18, hx14]
  refine Spec1.mk2 rfl fun F => ?_
  refine into I21ok 6 ?_
  conv => cbv
  refine OkCall.by_spec h [] (by decide) ?_ trivial ?_
  · conv => cbv
    simp only [leafs]
    exact ⟨hop.trans (op_of h0 h1).symm, trivial⟩
  conv => cbv
  refine Obs.int (.ex r26) (by rw [← hr26]; exact (rest_of h0 h1).symm) ?_
  conv => cbv
  refine Obs.int (.ex x22) (by rw [← hr26, ← hx22]; exact fld22.symm) ?_
  conv => cbv
  refine Obs.int (.ex r22) (by rw [← hr26, ← hr22]; exact clr22.symm) ?_
  conv => cbv
  refine Br.no (by simp only [leafs, decide_eq_false_iff_not]; omega) ?_
  conv => cbv
  refine Obs.int (.ex r22) (by show r22 = convI .i64 r22; rw [convI_eq, IntWalk.i64_in _ (by omega)]) ?_
  conv => cbv
  refine Br.yes (by simp only [leafs, decide_eq_true_eq]; omega) ?_
  conv => cbv
  refine Br.no (by simp only [leafs, Bool.not_eq_false', decide_eq_true_eq]; omega) ?_
  conv => cbv
  refine (LeOut.mk' [0, 1] (by decide) rfl id ?_ (by cbv)).two
  conv => cbv
  exact ⟨⟨by show op.val = convI .i64 (shrI .u32 w 26); rw [hop, convI_eq, shrI_eq]; exact (op_of h0 h1).symm, by show r22 = convI .i32 r22; rw [convI_eq, wrap_i32]; omega, trivial⟩, trivial⟩

theorem dec_diu_bad (w : Int) (op : S Int) (nm : ByteArray) (shp : Int) (h : OfIs op nm 4 2 shp) (h0 : 0 ≤ w) (h1 : w < 4294967296) (hop : op.val = w / 67108864) (hv : 262144 ≤ w % 4194304) : Spec1 kit 21 [.i .u32 (.ex w)] [.glob 0 layoutsL] false (.tup [.agg [.i .i64 (.lit 0), .i .u8 (.lit 0), .i .u8 (.lit 0), .i .u8 (.lit 0), .i .i32 (.lit 0)], .i .i64 (.lit 102)]) [.glob 0 layoutsL] [] := by
  obtain ⟨r26, hr26⟩ : ∃ x, w % 67108864 = x := ⟨_, rfl⟩
  obtain ⟨r22, hr22⟩ : ∃ x, w % 4194304 = x := ⟨_, rfl⟩
  obtain ⟨r18, hr18⟩ : ∃ x, w % 262144 = x := ⟨_, rfl⟩
  obtain ⟨r14, hr14⟩ : ∃ x, w % 16384 = x := ⟨_, rfl⟩
  obtain ⟨x22, hx22⟩ : ∃ x, w / 4194304 % 16 = x := ⟨_, rfl⟩
  obtain ⟨x18, hx18⟩ : ∃ x, w / 262144 % 16 = x := ⟨_, rfl⟩
  obtain ⟨x14, hx14⟩ : ∃ x, w / 16384 % 16 = x := ⟨_, rfl⟩
  try simp only [hr26, hr22, hr18, hr14, hx22, hx18, hx14]
  refine Spec1.mk2 rfl fun F => ?_
  refine into I21ok 6 ?_
  conv => cbv
  refine OkCall.by_spec h [] (by decide) ?_ trivial ?_
  · conv => cbv
    simp only [leafs]
    exact ⟨hop.trans (op_of h0 h1).symm, trivial⟩
  conv => cbv
  refine Obs.int (.ex r26) (by rw [← hr26]; exact (rest_of h0 h1).symm) ?_
  conv => cbv
  refine Obs.int (.ex x22) (by rw [← hr26, ← hx22]; exact fld22.symm) ?_
  conv => cbv
  refine Obs.int (.ex r22) (by rw [← hr26, ← hr22]; exact clr22.symm) ?_
  conv => cbv
  refine Br.no (by simp only [leafs, decide_eq_false_iff_not]; omega) ?_
  conv => cbv
  refine Obs.int (.ex r22) (by show r22 = convI .i64 r22; rw [convI_eq, IntWalk.i64_in _ (by omega)]) ?_
  conv => cbv
  refine Br.yes (by simp only [leafs, decide_eq_true_eq]; omega) ?_
  conv => cbv
  refine Br.yes (by simp only [leafs, Bool.not_eq_true', decide_eq_false_iff_not]; omega) ?_
  conv => cbv
  refine (LeOut.mk' [0, 1] (by decide) rfl id (by cbv) (by cbv)).two

theorem dec_d (w : Int) (op : S Int) (nm : ByteArray) (shp : Int) (h : OfIs op nm 5 0 shp) (h0 : 0 ≤ w) (h1 : w < 4294967296) (hop : op.val = w / 67108864) (hv : w % 4194304 = 0) : Spec1 kit 21 [.i .u32 (.ex w)] [.glob 0 layoutsL] false (.tup [.agg [.i .i64 op, .i .u8 (.ex (w / 4194304 % 16)), .i .u8 (.ex 0), .i .u8 (.ex 0), .i .i32 (.ex 0)], .i .i64 (.lit 0)]) [.glob 0 layoutsL] [] := by
  obtain ⟨r26, hr26⟩ : ∃ x, w % 67108864 = x := ⟨_, rfl⟩
  obtain ⟨r22, hr22⟩ : ∃ x, w % 4194304 = x := ⟨_, rfl⟩
  obtain ⟨r18, hr18⟩ : ∃ x, w % 262144 = x := ⟨_, rfl⟩
  obtain ⟨r14, hr14⟩ : ∃ x, w % 16384 = x := ⟨_, rfl⟩
  obtain ⟨x22, hx22⟩ : ∃ x, w / 4194304 % 16 = x := ⟨_, rfl⟩
  obtain ⟨x18, hx18⟩ : ∃ x, w / 262144 % 16 = x := ⟨_, rfl⟩
  obtain ⟨x14, hx14⟩ : ∃ x, w / 16384 % 16 = x := ⟨_, rfl⟩
  try simp only [hr26, hr22, hr18, hr14, hx22, hx18, hx14]
  refine Spec1.mk2 rfl fun F => ?_
  refine into I21ok 6 ?_
  conv => cbv
  refine OkCall.by_spec h [] (by decide) ?_ trivial ?_
  · conv => cbv
    simp only [leafs]
    exact ⟨hop.trans (op_of h0 h1).symm, trivial⟩
  conv => cbv
  refine Obs.int (.ex r26) (by rw [← hr26]; exact (rest_of h0 h1).symm) ?_
  conv => cbv
  refine Obs.int (.ex x22) (by rw [← hr26, ← hx22]; exact fld22.symm) ?_
  conv => cbv
  refine Obs.int (.ex r22) (by rw [← hr26, ← hr22]; exact clr22.symm) ?_
  conv => cbv
  refine Br.no (by simp only [leafs, decide_eq_false_iff_not]; omega) ?_
  conv => cbv
  refine Obs.int (.ex r22) (by show r22 = convI .i64 r22; rw [convI_eq, IntWalk.i64_in _ (by omega)]) ?_
  conv => cbv
  refine Br.no (by simp only [leafs, Bool.not_eq_false', beq_iff_eq]; omega) ?_
  conv => cbv
  refine (LeOut.mk' [0, 1] (by decide) rfl id ?_ (by cbv)).two
  conv => cbv
  exact ⟨⟨by show op.val = convI .i64 (shrI .u32 w 26); rw [hop, convI_eq, shrI_eq]; exact (op_of h0 h1).symm, by show (0 : Int) = convI .i32 r22; rw [convI_eq, wrap_i32]; omega, trivial⟩, trivial⟩

theorem dec_d_bad (w : Int) (op : S Int) (nm : ByteArray) (shp : Int) (h : OfIs op nm 5 0 shp) (h0 : 0 ≤ w) (h1 : w < 4294967296) (hop : op.val = w / 67108864) (hv : w % 4194304 ≠ 0) : Spec1 kit 21 [.i .u32 (.ex w)] [.glob 0 layoutsL] false (.tup [.agg [.i .i64 (.lit 0), .i .u8 (.lit 0), .i .u8 (.lit 0), .i .u8 (.lit 0), .i .i32 (.lit 0)], .i .i64 (.lit 103)]) [.glob 0 layoutsL] [] := by
  obtain ⟨r26, hr26⟩ : ∃ x, w % 67108864 = x := ⟨_, rfl⟩
  obtain ⟨r22, hr22⟩ : ∃ x, w % 4194304 = x := ⟨_, rfl⟩
  obtain ⟨r18, hr18⟩ : ∃ x, w % 262144 = x := ⟨_, rfl⟩
  obtain ⟨r14, hr14⟩ : ∃ x, w % 16384 = x := ⟨_, rfl⟩
  obtain ⟨x22, hx22⟩ : ∃ x, w / 4194304 % 16 = x := ⟨_, rfl⟩
  obtain ⟨x18, hx18⟩ : ∃ x, w / 262144 % 16 = x := ⟨_, rfl⟩
  obtain ⟨x14, hx14⟩ : ∃ x, w / 16384 % 16 = x := ⟨_, rfl⟩
  try simp only [hr26, hr22, hr18, hr14, hx22, hx18, hx14]
  refine Spec1.mk2 rfl fun F => ?_
  refine into I21ok 6 ?_
  conv => cbv
  refine OkCall.by_spec h [] (by decide) ?_ trivial ?_
  · conv => cbv
    simp only [leafs]
    exact ⟨hop.trans (op_of h0 h1).symm, trivial⟩
  conv => cbv
  refine Obs.int (.ex r26) (by rw [← hr26]; exact (rest_of h0 h1).symm) ?_
  conv => cbv
  refine Obs.int (.ex x22) (by rw [← hr26, ← hx22]; exact fld22.symm) ?_
  conv => cbv
  refine Obs.int (.ex r22) (by rw [← hr26, ← hr22]; exact clr22.symm) ?_
  conv => cbv
  refine Br.yes (by simp only [leafs, decide_eq_true_eq]; omega) ?_
  conv => cbv
  refine (LeOut.mk' [0, 1] (by decide) rfl id (by cbv) (by cbv)).two

theorem dec_a (w : Int) (op : S Int) (nm : ByteArray) (shp : Int) (h : OfIs op nm 6 0 shp) (h0 : 0 ≤ w) (h1 : w < 4294967296) (hop : op.val = w / 67108864) (hv : w % 4194304 = 0) : Spec1 kit 21 [.i .u32 (.ex w)] [.glob 0 layoutsL] false (.tup [.agg [.i .i64 op, .i .u8 (.ex 0), .i .u8 (.ex (w / 4194304 % 16)), .i .u8 (.ex 0), .i .i32 (.ex 0)], .i .i64 (.lit 0)]) [.glob 0 layoutsL] [] := by
  obtain ⟨r26, hr26⟩ : ∃ x, w % 67108864 = x := ⟨_, rfl⟩
  obtain ⟨r22, hr22⟩ : ∃ x, w % 4194304 = x := ⟨_, rfl⟩
  obtain ⟨r18, hr18⟩ : ∃ x, w % 262144 = x := ⟨_, rfl⟩
  obtain ⟨r14, hr14⟩ : ∃ x, w % 16384 = x := ⟨_, rfl⟩
  obtain ⟨x22, hx22⟩ : ∃ x, w / 4194304 % 16 = x := ⟨_, rfl⟩
  obtain ⟨x18, hx18⟩ : ∃ x, w / 262144 % 16 = x := ⟨_, rfl⟩
  obtain ⟨x14, hx14⟩ : ∃ x, w / 16384 % 16 = x := ⟨_, rfl⟩
  try simp only [hr26, hr22, hr18, hr14, hx22, hx18, hx14]
  refine Spec1.mk2 rfl fun F => ?_
  refine into I21ok 6 ?_
  conv => cbv
  refine OkCall.by_spec h [] (by decide) ?_ trivial ?_
  · conv => cbv
    simp only [leafs]
    exact ⟨hop.trans (op_of h0 h1).symm, trivial⟩
  conv => cbv
  refine Obs.int (.ex r26) (by rw [← hr26]; exact (rest_of h0 h1).symm) ?_
  conv => cbv
  refine Obs.int (.ex x22) (by rw [← hr26, ← hx22]; exact fld22.symm) ?_
  conv => cbv
  refine Obs.int (.ex r22) (by rw [← hr26, ← hr22]; exact clr22.symm) ?_
  conv => cbv
  refine Br.no (by simp only [leafs, decide_eq_false_iff_not]; omega) ?_
  conv => cbv
  refine Obs.int (.ex r22) (by show r22 = convI .i64 r22; rw [convI_eq, IntWalk.i64_in _ (by omega)]) ?_
  conv => cbv
  refine Br.no (by simp only [leafs, Bool.not_eq_false', beq_iff_eq]; omega) ?_
  conv => cbv
  refine (LeOut.mk' [0, 1] (by decide) rfl id ?_ (by cbv)).two
  conv => cbv
  exact ⟨⟨by show op.val = convI .i64 (shrI .u32 w 26); rw [hop, convI_eq, shrI_eq]; exact (op_of h0 h1).symm, by show (0 : Int) = convI .i32 r22; rw [convI_eq, wrap_i32]; omega, trivial⟩, trivial⟩

theorem dec_a_bad (w : Int) (op : S Int) (nm : ByteArray) (shp : Int) (h : OfIs op nm 6 0 shp) (h0 : 0 ≤ w) (h1 : w < 4294967296) (hop : op.val = w / 67108864) (hv : w % 4194304 ≠ 0) : Spec1 kit 21 [.i .u32 (.ex w)] [.glob 0 layoutsL] false (.tup [.agg [.i .i64 (.lit 0), .i .u8 (.lit 0), .i .u8 (.lit 0), .i .u8 (.lit 0), .i .i32 (.lit 0)], .i .i64 (.lit 103)]) [.glob 0 layoutsL] [] := by
  obtain ⟨r26, hr26⟩ : ∃ x, w % 67108864 = x := ⟨_, rfl⟩
  obtain ⟨r22, hr22⟩ : ∃ x, w % 4194304 = x := ⟨_, rfl⟩
  obtain ⟨r18, hr18⟩ : ∃ x, w % 262144 = x := ⟨_, rfl⟩
  obtain ⟨r14, hr14⟩ : ∃ x, w % 16384 = x := ⟨_, rfl⟩
  obtain ⟨x22, hx22⟩ : ∃ x, w / 4194304 % 16 = x := ⟨_, rfl⟩
  obtain ⟨x18, hx18⟩ : ∃ x, w / 262144 % 16 = x := ⟨_, rfl⟩
  obtain ⟨x14, hx14⟩ : ∃ x, w / 16384 % 16 = x := ⟨_, rfl⟩
  try simp only [hr26, hr22, hr18, hr14, hx22, hx18, hx14]
  refine Spec1.mk2 rfl fun F => ?_
  refine into I21ok 6 ?_
  conv => cbv
  refine OkCall.by_spec h [] (by decide) ?_ trivial ?_
  · conv => cbv
    simp only [leafs]
    exact ⟨hop.trans (op_of h0 h1).symm, trivial⟩
  conv => cbv
  refine Obs.int (.ex r26) (by rw [← hr26]; exact (rest_of h0 h1).symm) ?_
  conv => cbv
  refine Obs.int (.ex x22) (by rw [← hr26, ← hx22]; exact fld22.symm) ?_
  conv => cbv
  refine Obs.int (.ex r22) (by rw [← hr26, ← hr22]; exact clr22.symm) ?_
  conv => cbv
  refine Br.yes (by simp only [leafs, decide_eq_true_eq]; omega) ?_
  conv => cbv
  refine (LeOut.mk' [0, 1] (by decide) rfl id (by cbv) (by cbv)).two

theorem dec_iu (w : Int) (op : S Int) (nm : ByteArray) (shp : Int) (h : OfIs op nm 7 2 shp) (h0 : 0 ≤ w) (h1 : w < 4294967296) (hop : op.val = w / 67108864) (hv : w % 67108864 < 262144) : Spec1 kit 21 [.i .u32 (.ex w)] [.glob 0 layoutsL] false (.tup [.agg [.i .i64 op, .i .u8 (.ex 0), .i .u8 (.ex 0), .i .u8 (.ex 0), .i .i32 (.ex (w % 67108864))], .i .i64 (.lit 0)]) [.glob 0 layoutsL] [] := by
  obtain ⟨r26, hr26⟩ : ∃ x, w % 67108864 = x := ⟨_, rfl⟩
  obtain ⟨r22, hr22⟩ : ∃ x, w % 4194304 = x := ⟨_, rfl⟩
  obtain ⟨r18, hr18⟩ : ∃ x, w % 262144 = x := ⟨_, rfl⟩
  obtain ⟨r14, hr14⟩ : ∃ x, w % 16384 = x := ⟨_, rfl⟩
  obtain ⟨x22, hx22⟩ : ∃ x, w / 4194304 % 16 = x := ⟨_, rfl⟩
  obtain ⟨x18, hx18⟩ : ∃ x, w / 262144 % 16 = x := ⟨_, rfl⟩
  obtain ⟨x14, hx14⟩ : ∃ x, w / 16384 % 16 = x := ⟨_, rfl⟩
  try simp only [hr26, hr22, hr18, hr14, hx22, hx18, hx14]
  refine Spec1.mk2 rfl fun F => ?_
  refine into I21ok 6 ?_
  conv => cbv
  refine OkCall.by_spec h [] (by decide) ?_ trivial ?_
  · conv => cbv
    simp only [leafs]
    exact ⟨hop.trans (op_of h0 h1).symm, trivial⟩
  conv => cbv
  refine Obs.int (.ex r26) (by rw [← hr26]; exact (rest_of h0 h1).symm) ?_
  conv => cbv
  refine Br.no (by simp only [leafs, decide_eq_false_iff_not]; omega) ?_
  conv => cbv
  refine Obs.int (.ex r26) (by show r26 = convI .i64 r26; rw [convI_eq, IntWalk.i64_in _ (by omega)]) ?_
  conv => cbv
  refine Br.yes (by simp only [leafs, decide_eq_true_eq]; omega) ?_
  conv => cbv
  refine Br.no (by simp only [leafs, Bool.not_eq_false', decide_eq_true_eq]; omega) ?_
  conv => cbv
  refine (LeOut.mk' [0, 1] (by decide) rfl id ?_ (by cbv)).two
  conv => cbv
  exact ⟨⟨by show op.val = convI .i64 (shrI .u32 w 26); rw [hop, convI_eq, shrI_eq]; exact (op_of h0 h1).symm, by show r26 = convI .i32 r26; rw [convI_eq, wrap_i32]; omega, trivial⟩, trivial⟩

theorem dec_iu_bad (w : Int) (op : S Int) (nm : ByteArray) (shp : Int) (h : OfIs op nm 7 2 shp) (h0 : 0 ≤ w) (h1 : w < 4294967296) (hop : op.val = w / 67108864) (hv : 262144 ≤ w % 67108864) : Spec1 kit 21 [.i .u32 (.ex w)] [.glob 0 layoutsL] false (.tup [.agg [.i .i64 (.lit 0), .i .u8 (.lit 0), .i .u8 (.lit 0), .i .u8 (.lit 0), .i .i32 (.lit 0)], .i .i64 (.lit 102)]) [.glob 0 layoutsL] [] := by
  obtain ⟨r26, hr26⟩ : ∃ x, w % 67108864 = x := ⟨_, rfl⟩
  obtain ⟨r22, hr22⟩ : ∃ x, w % 4194304 = x := ⟨_, rfl⟩
  obtain ⟨r18, hr18⟩ : ∃ x, w % 262144 = x := ⟨_, rfl⟩
  obtain ⟨r14, hr14⟩ : ∃ x, w % 16384 = x := ⟨_, rfl⟩
  obtain ⟨x22, hx22⟩ : ∃ x, w / 4194304 % 16 = x := ⟨_, rfl⟩
  obtain ⟨x18, hx18⟩ : ∃ x, w / 262144 % 16 = x := ⟨_, rfl⟩
  obtain ⟨x14, hx14⟩ : ∃ x, w / 16384 % 16 = x := ⟨_, rfl⟩
  try simp only [hr26, hr22, hr18, hr14, hx22, hx18, hx14]
  refine Spec1.mk2 rfl fun F => ?_
  refine into I21ok 6 ?_
  conv => cbv
  refine OkCall.by_spec h [] (by decide) ?_ trivial ?_
  · conv => cbv
    simp only [leafs]
    exact ⟨hop.trans (op_of h0 h1).symm, trivial⟩
  conv => cbv
  refine Obs.int (.ex r26) (by rw [← hr26]; exact (rest_of h0 h1).symm) ?_
  conv => cbv
  refine Br.no (by simp only [leafs, decide_eq_false_iff_not]; omega) ?_
  conv => cbv
  refine Obs.int (.ex r26) (by show r26 = convI .i64 r26; rw [convI_eq, IntWalk.i64_in _ (by omega)]) ?_
  conv => cbv
  refine Br.yes (by simp only [leafs, decide_eq_true_eq]; omega) ?_
  conv => cbv
  refine Br.yes (by simp only [leafs, Bool.not_eq_true', decide_eq_false_iff_not]; omega) ?_
  conv => cbv
  refine (LeOut.mk' [0, 1] (by decide) rfl id (by cbv) (by cbv)).two

theorem dec_n (w : Int) (op : S Int) (nm : ByteArray) (shp : Int) (h : OfIs op nm 8 0 shp) (h0 : 0 ≤ w) (h1 : w < 4294967296) (hop : op.val = w / 67108864) (hv : w % 67108864 = 0) : Spec1 kit 21 [.i .u32 (.ex w)] [.glob 0 layoutsL] false (.tup [.agg [.i .i64 op, .i .u8 (.ex 0), .i .u8 (.ex 0), .i .u8 (.ex 0), .i .i32 (.ex 0)], .i .i64 (.lit 0)]) [.glob 0 layoutsL] [] := by
  obtain ⟨r26, hr26⟩ : ∃ x, w % 67108864 = x := ⟨_, rfl⟩
  obtain ⟨r22, hr22⟩ : ∃ x, w % 4194304 = x := ⟨_, rfl⟩
  obtain ⟨r18, hr18⟩ : ∃ x, w % 262144 = x := ⟨_, rfl⟩
  obtain ⟨r14, hr14⟩ : ∃ x, w % 16384 = x := ⟨_, rfl⟩
  obtain ⟨x22, hx22⟩ : ∃ x, w / 4194304 % 16 = x := ⟨_, rfl⟩
  obtain ⟨x18, hx18⟩ : ∃ x, w / 262144 % 16 = x := ⟨_, rfl⟩
  obtain ⟨x14, hx14⟩ : ∃ x, w / 16384 % 16 = x := ⟨_, rfl⟩
  try simp only [hr26, hr22, hr18, hr14, hx22, hx18, hx14]
  refine Spec1.mk2 rfl fun F => ?_
  refine into I21ok 6 ?_
  conv => cbv
  refine OkCall.by_spec h [] (by decide) ?_ trivial ?_
  · conv => cbv
    simp only [leafs]
    exact ⟨hop.trans (op_of h0 h1).symm, trivial⟩
  conv => cbv
  refine Obs.int (.ex r26) (by rw [← hr26]; exact (rest_of h0 h1).symm) ?_
  conv => cbv
  refine Br.no (by simp only [leafs, decide_eq_false_iff_not]; omega) ?_
  conv => cbv
  refine Obs.int (.ex r26) (by show r26 = convI .i64 r26; rw [convI_eq, IntWalk.i64_in _ (by omega)]) ?_
  conv => cbv
  refine Br.no (by simp only [leafs, Bool.not_eq_false', beq_iff_eq]; omega) ?_
  conv => cbv
  refine (LeOut.mk' [0, 1] (by decide) rfl id ?_ (by cbv)).two
  conv => cbv
  exact ⟨⟨by show op.val = convI .i64 (shrI .u32 w 26); rw [hop, convI_eq, shrI_eq]; exact (op_of h0 h1).symm, by show (0 : Int) = convI .i32 r26; rw [convI_eq, wrap_i32]; omega, trivial⟩, trivial⟩

theorem dec_n_bad (w : Int) (op : S Int) (nm : ByteArray) (shp : Int) (h : OfIs op nm 8 0 shp) (h0 : 0 ≤ w) (h1 : w < 4294967296) (hop : op.val = w / 67108864) (hv : w % 67108864 ≠ 0) : Spec1 kit 21 [.i .u32 (.ex w)] [.glob 0 layoutsL] false (.tup [.agg [.i .i64 (.lit 0), .i .u8 (.lit 0), .i .u8 (.lit 0), .i .u8 (.lit 0), .i .i32 (.lit 0)], .i .i64 (.lit 103)]) [.glob 0 layoutsL] [] := by
  obtain ⟨r26, hr26⟩ : ∃ x, w % 67108864 = x := ⟨_, rfl⟩
  obtain ⟨r22, hr22⟩ : ∃ x, w % 4194304 = x := ⟨_, rfl⟩
  obtain ⟨r18, hr18⟩ : ∃ x, w % 262144 = x := ⟨_, rfl⟩
  obtain ⟨r14, hr14⟩ : ∃ x, w % 16384 = x := ⟨_, rfl⟩
  obtain ⟨x22, hx22⟩ : ∃ x, w / 4194304 % 16 = x := ⟨_, rfl⟩
  obtain ⟨x18, hx18⟩ : ∃ x, w / 262144 % 16 = x := ⟨_, rfl⟩
  obtain ⟨x14, hx14⟩ : ∃ x, w / 16384 % 16 = x := ⟨_, rfl⟩
  try simp only [hr26, hr22, hr18, hr14, hx22, hx18, hx14]
  refine Spec1.mk2 rfl fun F => ?_
  refine into I21ok 6 ?_
  conv => cbv
  refine OkCall.by_spec h [] (by decide) ?_ trivial ?_
  · conv => cbv
    simp only [leafs]
    exact ⟨hop.trans (op_of h0 h1).symm, trivial⟩
  conv => cbv
  refine Obs.int (.ex r26) (by rw [← hr26]; exact (rest_of h0 h1).symm) ?_
  conv => cbv
  refine Br.yes (by simp only [leafs, decide_eq_true_eq]; omega) ?_
  conv => cbv
  refine (LeOut.mk' [0, 1] (by decide) rfl id (by cbv) (by cbv)).two

end Go.Proofs.YtkljgpepogkgdaaDoor
