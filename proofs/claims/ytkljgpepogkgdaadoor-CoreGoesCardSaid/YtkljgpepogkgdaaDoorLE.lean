/-
  isa.Encode of branches and jal.
-/
import Derived.Test.YtkljgpepogkgdaaDoorGL
set_option linter.unusedVariables false
set_option linter.unusedSimpArgs false
namespace Go.Proofs.YtkljgpepogkgdaaDoor
open Go Go.Vex
set_option maxRecDepth 20000
set_option maxHeartbeats 4000000
noncomputable def I19 : FnT := [(19, fi Tryd.f19 ⟨[], 4⟩), (42, fi Tryd.f42 ⟨[], 0⟩)]
theorem I19ok : FnsOk kit I19 := ⟨fo19 _, fo42 _, trivial⟩
theorem or_low (k : Nat) (c : Nat) (x : Int) (hk : k ≤ 32) (h0 : 0 ≤ x) (h1 : x < (2 ^ k : Nat)) (hb : 2 ^ k * c < 4294967296) : orI .u32 ((2 ^ k * c : Nat) : Int) x = ((2 ^ k * c : Nat) : Int) + x := by
  obtain ⟨n, rfl⟩ := Int.eq_ofNat_of_zero_le h0
  have hn : n < 2 ^ k := by omega
  have h32 : n < 2 ^ 32 := Nat.lt_of_lt_of_le hn (Nat.pow_le_pow_right (by decide) hk)
  rw [or_u32 (by omega) h32, ← Nat.two_pow_add_eq_or_of_lt hn c]
  simp
theorem enc_32 (imm w : Int) (h1 : -100000 ≤ imm) (h2 : imm < 100000) (hw : w = 2156658688 + imm % 262144) :
    Spec1 kit 19 [.agg [.i .i64 (.lit 32), .i .u8 (.lit 0), .i .u8 (.lit 2), .i .u8 (.lit 3), .i .i32 (.ex imm)]] [.glob 0 layoutsL] false (.tup [.i .u32 (.ex w), .i .i64 (.lit 0)]) [.glob 0 layoutsL] [] := by
  refine Spec1.mk2 rfl fun F => ?_
  refine into I19ok 6 ?_
  conv => cbv
  refine OkCall.by_spec of_32 [] (by decide) (by cbv) trivial ?_
  conv => cbv
  have e : convI .i64 imm = imm := by rw [convI_eq, IntWalk.i64_in _ (by omega)]
  refine Br.yes (by show leI (-131072) (convI .i64 imm) = true; rw [e, leI_eq, decide_eq_true_eq]; omega) ?_
  conv => cbv
  refine Br.no (by show notB (ltI (convI .i64 imm) 131072) = false; rw [e, notB_eq, ltI_eq, Bool.not_eq_false', decide_eq_true_eq]; omega) ?_
  conv => cbv
  refine LeOut.two (LeOut.mk' [0, 1] (by decide) rfl (by decide) ?_ (by cbv))
  conv => cbv
  refine ⟨?_, trivial⟩
  show w = orI .u32 2156658688 (andI .u32 (convI .u32 imm) 262143)
  have e2 : andI .u32 (convI .u32 imm) 262143 = imm % 262144 := by
    rw [conv_imm]
    have := mask_u32 (a := w32 imm) 18 (by decide) (w32_ok imm).1 (w32_ok imm).2
    rw [show ((2 ^ 18 - 1 : Nat) : Int) = 262143 by decide, show ((2 ^ 18 : Nat) : Int) = 262144 by decide] at this
    rw [this]; unfold w32; omega
  rw [e2, hw]
  exact (or_low 18 8227 (imm % 262144) (by decide) (by omega) (by simp; omega) (by decide)).symm
theorem enc_33 (imm w : Int) (h1 : -100000 ≤ imm) (h2 : imm < 100000) (hw : w = 2223767552 + imm % 262144) :
    Spec1 kit 19 [.agg [.i .i64 (.lit 33), .i .u8 (.lit 0), .i .u8 (.lit 2), .i .u8 (.lit 3), .i .i32 (.ex imm)]] [.glob 0 layoutsL] false (.tup [.i .u32 (.ex w), .i .i64 (.lit 0)]) [.glob 0 layoutsL] [] := by
  refine Spec1.mk2 rfl fun F => ?_
  refine into I19ok 6 ?_
  conv => cbv
  refine OkCall.by_spec of_33 [] (by decide) (by cbv) trivial ?_
  conv => cbv
  have e : convI .i64 imm = imm := by rw [convI_eq, IntWalk.i64_in _ (by omega)]
  refine Br.yes (by show leI (-131072) (convI .i64 imm) = true; rw [e, leI_eq, decide_eq_true_eq]; omega) ?_
  conv => cbv
  refine Br.no (by show notB (ltI (convI .i64 imm) 131072) = false; rw [e, notB_eq, ltI_eq, Bool.not_eq_false', decide_eq_true_eq]; omega) ?_
  conv => cbv
  refine LeOut.two (LeOut.mk' [0, 1] (by decide) rfl (by decide) ?_ (by cbv))
  conv => cbv
  refine ⟨?_, trivial⟩
  show w = orI .u32 2223767552 (andI .u32 (convI .u32 imm) 262143)
  have e2 : andI .u32 (convI .u32 imm) 262143 = imm % 262144 := by
    rw [conv_imm]
    have := mask_u32 (a := w32 imm) 18 (by decide) (w32_ok imm).1 (w32_ok imm).2
    rw [show ((2 ^ 18 - 1 : Nat) : Int) = 262143 by decide, show ((2 ^ 18 : Nat) : Int) = 262144 by decide] at this
    rw [this]; unfold w32; omega
  rw [e2, hw]
  exact (or_low 18 8483 (imm % 262144) (by decide) (by omega) (by simp; omega) (by decide)).symm
theorem enc_34 (imm w : Int) (h1 : -100000 ≤ imm) (h2 : imm < 100000) (hw : w = 2290876416 + imm % 262144) :
    Spec1 kit 19 [.agg [.i .i64 (.lit 34), .i .u8 (.lit 0), .i .u8 (.lit 2), .i .u8 (.lit 3), .i .i32 (.ex imm)]] [.glob 0 layoutsL] false (.tup [.i .u32 (.ex w), .i .i64 (.lit 0)]) [.glob 0 layoutsL] [] := by
  refine Spec1.mk2 rfl fun F => ?_
  refine into I19ok 6 ?_
  conv => cbv
  refine OkCall.by_spec of_34 [] (by decide) (by cbv) trivial ?_
  conv => cbv
  have e : convI .i64 imm = imm := by rw [convI_eq, IntWalk.i64_in _ (by omega)]
  refine Br.yes (by show leI (-131072) (convI .i64 imm) = true; rw [e, leI_eq, decide_eq_true_eq]; omega) ?_
  conv => cbv
  refine Br.no (by show notB (ltI (convI .i64 imm) 131072) = false; rw [e, notB_eq, ltI_eq, Bool.not_eq_false', decide_eq_true_eq]; omega) ?_
  conv => cbv
  refine LeOut.two (LeOut.mk' [0, 1] (by decide) rfl (by decide) ?_ (by cbv))
  conv => cbv
  refine ⟨?_, trivial⟩
  show w = orI .u32 2290876416 (andI .u32 (convI .u32 imm) 262143)
  have e2 : andI .u32 (convI .u32 imm) 262143 = imm % 262144 := by
    rw [conv_imm]
    have := mask_u32 (a := w32 imm) 18 (by decide) (w32_ok imm).1 (w32_ok imm).2
    rw [show ((2 ^ 18 - 1 : Nat) : Int) = 262143 by decide, show ((2 ^ 18 : Nat) : Int) = 262144 by decide] at this
    rw [this]; unfold w32; omega
  rw [e2, hw]
  exact (or_low 18 8739 (imm % 262144) (by decide) (by omega) (by simp; omega) (by decide)).symm
theorem enc_35 (imm w : Int) (h1 : -100000 ≤ imm) (h2 : imm < 100000) (hw : w = 2357985280 + imm % 262144) :
    Spec1 kit 19 [.agg [.i .i64 (.lit 35), .i .u8 (.lit 0), .i .u8 (.lit 2), .i .u8 (.lit 3), .i .i32 (.ex imm)]] [.glob 0 layoutsL] false (.tup [.i .u32 (.ex w), .i .i64 (.lit 0)]) [.glob 0 layoutsL] [] := by
  refine Spec1.mk2 rfl fun F => ?_
  refine into I19ok 6 ?_
  conv => cbv
  refine OkCall.by_spec of_35 [] (by decide) (by cbv) trivial ?_
  conv => cbv
  have e : convI .i64 imm = imm := by rw [convI_eq, IntWalk.i64_in _ (by omega)]
  refine Br.yes (by show leI (-131072) (convI .i64 imm) = true; rw [e, leI_eq, decide_eq_true_eq]; omega) ?_
  conv => cbv
  refine Br.no (by show notB (ltI (convI .i64 imm) 131072) = false; rw [e, notB_eq, ltI_eq, Bool.not_eq_false', decide_eq_true_eq]; omega) ?_
  conv => cbv
  refine LeOut.two (LeOut.mk' [0, 1] (by decide) rfl (by decide) ?_ (by cbv))
  conv => cbv
  refine ⟨?_, trivial⟩
  show w = orI .u32 2357985280 (andI .u32 (convI .u32 imm) 262143)
  have e2 : andI .u32 (convI .u32 imm) 262143 = imm % 262144 := by
    rw [conv_imm]
    have := mask_u32 (a := w32 imm) 18 (by decide) (w32_ok imm).1 (w32_ok imm).2
    rw [show ((2 ^ 18 - 1 : Nat) : Int) = 262143 by decide, show ((2 ^ 18 : Nat) : Int) = 262144 by decide] at this
    rw [this]; unfold w32; omega
  rw [e2, hw]
  exact (or_low 18 8995 (imm % 262144) (by decide) (by omega) (by simp; omega) (by decide)).symm
theorem enc_36 (imm w : Int) (h1 : -100000 ≤ imm) (h2 : imm < 100000) (hw : w = 2425094144 + imm % 262144) :
    Spec1 kit 19 [.agg [.i .i64 (.lit 36), .i .u8 (.lit 0), .i .u8 (.lit 2), .i .u8 (.lit 3), .i .i32 (.ex imm)]] [.glob 0 layoutsL] false (.tup [.i .u32 (.ex w), .i .i64 (.lit 0)]) [.glob 0 layoutsL] [] := by
  refine Spec1.mk2 rfl fun F => ?_
  refine into I19ok 6 ?_
  conv => cbv
  refine OkCall.by_spec of_36 [] (by decide) (by cbv) trivial ?_
  conv => cbv
  have e : convI .i64 imm = imm := by rw [convI_eq, IntWalk.i64_in _ (by omega)]
  refine Br.yes (by show leI (-131072) (convI .i64 imm) = true; rw [e, leI_eq, decide_eq_true_eq]; omega) ?_
  conv => cbv
  refine Br.no (by show notB (ltI (convI .i64 imm) 131072) = false; rw [e, notB_eq, ltI_eq, Bool.not_eq_false', decide_eq_true_eq]; omega) ?_
  conv => cbv
  refine LeOut.two (LeOut.mk' [0, 1] (by decide) rfl (by decide) ?_ (by cbv))
  conv => cbv
  refine ⟨?_, trivial⟩
  show w = orI .u32 2425094144 (andI .u32 (convI .u32 imm) 262143)
  have e2 : andI .u32 (convI .u32 imm) 262143 = imm % 262144 := by
    rw [conv_imm]
    have := mask_u32 (a := w32 imm) 18 (by decide) (w32_ok imm).1 (w32_ok imm).2
    rw [show ((2 ^ 18 - 1 : Nat) : Int) = 262143 by decide, show ((2 ^ 18 : Nat) : Int) = 262144 by decide] at this
    rw [this]; unfold w32; omega
  rw [e2, hw]
  exact (or_low 18 9251 (imm % 262144) (by decide) (by omega) (by simp; omega) (by decide)).symm
theorem enc_37 (imm w : Int) (h1 : -100000 ≤ imm) (h2 : imm < 100000) (hw : w = 2492203008 + imm % 262144) :
    Spec1 kit 19 [.agg [.i .i64 (.lit 37), .i .u8 (.lit 0), .i .u8 (.lit 2), .i .u8 (.lit 3), .i .i32 (.ex imm)]] [.glob 0 layoutsL] false (.tup [.i .u32 (.ex w), .i .i64 (.lit 0)]) [.glob 0 layoutsL] [] := by
  refine Spec1.mk2 rfl fun F => ?_
  refine into I19ok 6 ?_
  conv => cbv
  refine OkCall.by_spec of_37 [] (by decide) (by cbv) trivial ?_
  conv => cbv
  have e : convI .i64 imm = imm := by rw [convI_eq, IntWalk.i64_in _ (by omega)]
  refine Br.yes (by show leI (-131072) (convI .i64 imm) = true; rw [e, leI_eq, decide_eq_true_eq]; omega) ?_
  conv => cbv
  refine Br.no (by show notB (ltI (convI .i64 imm) 131072) = false; rw [e, notB_eq, ltI_eq, Bool.not_eq_false', decide_eq_true_eq]; omega) ?_
  conv => cbv
  refine LeOut.two (LeOut.mk' [0, 1] (by decide) rfl (by decide) ?_ (by cbv))
  conv => cbv
  refine ⟨?_, trivial⟩
  show w = orI .u32 2492203008 (andI .u32 (convI .u32 imm) 262143)
  have e2 : andI .u32 (convI .u32 imm) 262143 = imm % 262144 := by
    rw [conv_imm]
    have := mask_u32 (a := w32 imm) 18 (by decide) (w32_ok imm).1 (w32_ok imm).2
    rw [show ((2 ^ 18 - 1 : Nat) : Int) = 262143 by decide, show ((2 ^ 18 : Nat) : Int) = 262144 by decide] at this
    rw [this]; unfold w32; omega
  rw [e2, hw]
  exact (or_low 18 9507 (imm % 262144) (by decide) (by omega) (by simp; omega) (by decide)).symm
theorem enc_38 (imm w : Int) (h1 : -100000 ≤ imm) (h2 : imm < 100000) (hw : w = 2554331136 + imm % 4194304) :
    Spec1 kit 19 [.agg [.i .i64 (.lit 38), .i .u8 (.lit 1), .i .u8 (.lit 0), .i .u8 (.lit 0), .i .i32 (.ex imm)]] [.glob 0 layoutsL] false (.tup [.i .u32 (.ex w), .i .i64 (.lit 0)]) [.glob 0 layoutsL] [] := by
  refine Spec1.mk2 rfl fun F => ?_
  refine into I19ok 6 ?_
  conv => cbv
  refine OkCall.by_spec of_38 [] (by decide) (by cbv) trivial ?_
  conv => cbv
  have e : convI .i64 imm = imm := by rw [convI_eq, IntWalk.i64_in _ (by omega)]
  refine Br.yes (by show leI (-2097152) (convI .i64 imm) = true; rw [e, leI_eq, decide_eq_true_eq]; omega) ?_
  conv => cbv
  refine Br.no (by show notB (ltI (convI .i64 imm) 2097152) = false; rw [e, notB_eq, ltI_eq, Bool.not_eq_false', decide_eq_true_eq]; omega) ?_
  conv => cbv
  refine LeOut.two (LeOut.mk' [0, 1] (by decide) rfl (by decide) ?_ (by cbv))
  conv => cbv
  refine ⟨?_, trivial⟩
  show w = orI .u32 2554331136 (andI .u32 (convI .u32 imm) 4194303)
  have e2 : andI .u32 (convI .u32 imm) 4194303 = imm % 4194304 := by
    rw [conv_imm]
    have := mask_u32 (a := w32 imm) 22 (by decide) (w32_ok imm).1 (w32_ok imm).2
    rw [show ((2 ^ 22 - 1 : Nat) : Int) = 4194303 by decide, show ((2 ^ 22 : Nat) : Int) = 4194304 by decide] at this
    rw [this]; unfold w32; omega
  rw [e2, hw]
  exact (or_low 22 609 (imm % 4194304) (by decide) (by omega) (by simp; omega) (by decide)).symm
end Go.Proofs.YtkljgpepogkgdaaDoor
