/-
  Merged: RW TE.
-/
import Derived.Test.YtkljgpepogkgdaaDoorRM
import Derived.Test.YtkljgpepogkgdaaDoorV23
set_option linter.unusedVariables false
set_option linter.unusedSimpArgs false
namespace Go.Proofs.YtkljgpepogkgdaaDoor
open Go Go.Vex
set_option maxRecDepth 20000
set_option maxHeartbeats 4000000
theorem kregG {I : FnT} (hI : FnsOk kit I) (d : Nat) (ob : List Nat) {nt n0 id : Nat} {ops : Array Oper} {rest : Code} {q : Bool} {st : St} {Q : Bool → Ex → St → Prop} (hch : drawChk ops = true)
    (h : drawG kit (callH kit tab mtab I d) ob tab mtab nt ops.toList (preds ops.toList) ops.size ops.toList 0 st fun q e st => match e with
      | .normal => Ok kit nt n0 rest q st Q
      | .exit id => Q q (.exit id) st
      | .ret => Q q .ret st) : Ok kit nt n0 (.seq (.region id ops true) rest) q st Q :=
  Ok.regionG (callH_ok hI d) ob hch (by rw [kit_T, kit_M]; exact h)
theorem short_14 : Spec1 kit 35 [.i .i64 (.lit 13)] [] false (.i .i64 (.lit 0)) [] [] := by
  refine Spec1.mk2 rfl fun F => ?_
  refine into I13ok 6 ?_
  conv => cbv
  refine LeOut.two (LeOut.mk' [0] (by decide) rfl (by decide) (by cbv) (by cbv))
theorem short_15 : Spec1 kit 35 [.i .i64 (.lit 14)] [] false (.i .i64 (.lit 5)) [] [] := by
  refine Spec1.mk2 rfl fun F => ?_
  refine into I13ok 6 ?_
  conv => cbv
  refine LeOut.two (LeOut.mk' [0] (by decide) rfl (by decide) (by cbv) (by cbv))
theorem short_16 : Spec1 kit 35 [.i .i64 (.lit 15)] [] false (.i .i64 (.lit 6)) [] [] := by
  refine Spec1.mk2 rfl fun F => ?_
  refine into I13ok 6 ?_
  conv => cbv
  refine LeOut.two (LeOut.mk' [0] (by decide) rfl (by decide) (by cbv) (by cbv))
theorem short_17 : Spec1 kit 35 [.i .i64 (.lit 16)] [] false (.i .i64 (.lit 7)) [] [] := by
  refine Spec1.mk2 rfl fun F => ?_
  refine into I13ok 6 ?_
  conv => cbv
  refine LeOut.two (LeOut.mk' [0] (by decide) rfl (by decide) (by cbv) (by cbv))
theorem short_18 : Spec1 kit 35 [.i .i64 (.lit 17)] [] false (.i .i64 (.lit 8)) [] [] := by
  refine Spec1.mk2 rfl fun F => ?_
  refine into I13ok 6 ?_
  conv => cbv
  refine LeOut.two (LeOut.mk' [0] (by decide) rfl (by decide) (by cbv) (by cbv))
theorem short_19 : Spec1 kit 35 [.i .i64 (.lit 18)] [] false (.i .i64 (.lit 9)) [] [] := by
  refine Spec1.mk2 rfl fun F => ?_
  refine into I13ok 6 ?_
  conv => cbv
  refine LeOut.two (LeOut.mk' [0] (by decide) rfl (by decide) (by cbv) (by cbv))
theorem short_20 : Spec1 kit 35 [.i .i64 (.lit 19)] [] false (.i .i64 (.lit 10)) [] [] := by
  refine Spec1.mk2 rfl fun F => ?_
  refine into I13ok 6 ?_
  conv => cbv
  refine LeOut.two (LeOut.mk' [0] (by decide) rfl (by decide) (by cbv) (by cbv))
theorem short_21 : Spec1 kit 35 [.i .i64 (.lit 20)] [] false (.i .i64 (.lit 11)) [] [] := by
  refine Spec1.mk2 rfl fun F => ?_
  refine into I13ok 6 ?_
  conv => cbv
  refine LeOut.two (LeOut.mk' [0] (by decide) rfl (by decide) (by cbv) (by cbv))
theorem short_22 : Spec1 kit 35 [.i .i64 (.lit 21)] [] false (.i .i64 (.lit 12)) [] [] := by
  refine Spec1.mk2 rfl fun F => ?_
  refine into I13ok 6 ?_
  conv => cbv
  refine LeOut.two (LeOut.mk' [0] (by decide) rfl (by decide) (by cbv) (by cbv))
theorem rsuma_1 {x y z : Int} (hx : U32 x) (hy : U32 y) (hz : z = sumF 1 x y) {hp : List Blk} {K : SV → Prop} (hK : K (.i .u32 (.ex z))) : ACall kit 34 [.i .i64 (.lit 0), .i .u32 (.ex x), .i .u32 (.ex y)] hp K :=
  ACall.of_q _ rfl rfl (rsum_1 hx hy hz rfl) hK
theorem rsuma_2 {x y z : Int} (hx : U32 x) (hy : U32 y) (hz : z = sumF 2 x y) {hp : List Blk} {K : SV → Prop} (hK : K (.i .u32 (.ex z))) : ACall kit 34 [.i .i64 (.lit 1), .i .u32 (.ex x), .i .u32 (.ex y)] hp K :=
  ACall.of_q _ rfl rfl (rsum_2 hx hy hz rfl) hK
theorem rsuma_3 {x y z : Int} (hx : U32 x) (hy : U32 y) (hz : z = sumF 3 x y) {hp : List Blk} {K : SV → Prop} (hK : K (.i .u32 (.ex z))) : ACall kit 34 [.i .i64 (.lit 2), .i .u32 (.ex x), .i .u32 (.ex y)] hp K :=
  ACall.of_q _ rfl rfl (rsum_3 hx hy hz rfl) hK
theorem rsuma_4 {x y z : Int} (hx : U32 x) (hy : U32 y) (hz : z = sumF 4 x y) {hp : List Blk} {K : SV → Prop} (hK : K (.i .u32 (.ex z))) : ACall kit 34 [.i .i64 (.lit 3), .i .u32 (.ex x), .i .u32 (.ex y)] hp K :=
  ACall.of_q _ rfl rfl (rsum_4 hx hy hz rfl) hK
theorem rsuma_5 {x y z : Int} (hx : U32 x) (hy : U32 y) (hz : z = sumF 5 x y) {hp : List Blk} {K : SV → Prop} (hK : K (.i .u32 (.ex z))) : ACall kit 34 [.i .i64 (.lit 4), .i .u32 (.ex x), .i .u32 (.ex y)] hp K :=
  ACall.of_q _ rfl rfl (rsum_5 hx hy hz rfl) hK
theorem rsuma_6 {x y z : Int} (hx : U32 x) (hy : U32 y) (hz : z = sumF 6 x y) {hp : List Blk} {K : SV → Prop} (hK : K (.i .u32 (.ex z))) : ACall kit 34 [.i .i64 (.lit 5), .i .u32 (.ex x), .i .u32 (.ex y)] hp K :=
  ACall.of_q _ rfl rfl (rsum_6 hx hy hz rfl) hK
theorem rsuma_7 {x y z : Int} (hx : U32 x) (hy : U32 y) (hz : z = sumF 7 x y) {hp : List Blk} {K : SV → Prop} (hK : K (.i .u32 (.ex z))) : ACall kit 34 [.i .i64 (.lit 6), .i .u32 (.ex x), .i .u32 (.ex y)] hp K :=
  ACall.of_q _ rfl rfl (rsum_7 hx hy hz rfl) hK
theorem rsuma_8 {x y z : Int} (hx : U32 x) (hy : U32 y) (hz : z = sumF 8 x y) {hp : List Blk} {K : SV → Prop} (hK : K (.i .u32 (.ex z))) : ACall kit 34 [.i .i64 (.lit 7), .i .u32 (.ex x), .i .u32 (.ex y)] hp K :=
  ACall.of_q _ rfl rfl (rsum_8 hx hy hz rfl) hK
theorem rsuma_9 {x y z : Int} (hx : U32 x) (hy : U32 y) (hz : z = sumF 9 x y) {hp : List Blk} {K : SV → Prop} (hK : K (.i .u32 (.ex z))) : ACall kit 34 [.i .i64 (.lit 8), .i .u32 (.ex x), .i .u32 (.ex y)] hp K :=
  ACall.of_q _ rfl rfl (rsum_9 hx hy hz rfl) hK
theorem rsuma_10 {x y z : Int} (hx : U32 x) (hy : U32 y) (hz : z = sumF 10 x y) {hp : List Blk} {K : SV → Prop} (hK : K (.i .u32 (.ex z))) : ACall kit 34 [.i .i64 (.lit 9), .i .u32 (.ex x), .i .u32 (.ex y)] hp K :=
  ACall.of_q _ rfl rfl (rsum_10 hx hy hz rfl) hK
theorem rsuma_11 {x y z : Int} (hx : U32 x) (hy : U32 y) (hz : z = sumF 11 x y) {hp : List Blk} {K : SV → Prop} (hK : K (.i .u32 (.ex z))) : ACall kit 34 [.i .i64 (.lit 10), .i .u32 (.ex x), .i .u32 (.ex y)] hp K :=
  ACall.of_q _ rfl rfl (rsum_11 hx hy hz rfl) hK
theorem rsuma_12 {x y z : Int} (hx : U32 x) (hy : U32 y) (hz : z = sumF 12 x y) {hp : List Blk} {K : SV → Prop} (hK : K (.i .u32 (.ex z))) : ACall kit 34 [.i .i64 (.lit 11), .i .u32 (.ex x), .i .u32 (.ex y)] hp K :=
  ACall.of_q _ rfl rfl (rsum_12 hx hy hz rfl) hK
theorem rsuma_13 {x y z : Int} (hx : U32 x) (hy : U32 y) (hz : z = sumF 13 x y) {hp : List Blk} {K : SV → Prop} (hK : K (.i .u32 (.ex z))) : ACall kit 34 [.i .i64 (.lit 12), .i .u32 (.ex x), .i .u32 (.ex y)] hp K :=
  ACall.of_q _ rfl rfl (rsum_13 hx hy hz rfl) hK
end Go.Proofs.YtkljgpepogkgdaaDoor

namespace Go.Proofs.YtkljgpepogkgdaaDoor
open Go Go.Vex
set_option maxRecDepth 20000
set_option maxHeartbeats 4000000
theorem rtail_14 (r : List Int) (pc vec back : Int) (on hdl : Bool) (bd : BoardS) (F) (w cyc x y z n : Int) (hs : RegOk ⟨r, pc, vec, back, on, hdl⟩) (hz0 : r.set 0 0 = r) (hbd : BdOk bd) (hx : 0 ≤ x ∧ x < 16) (hy : 0 ≤ y ∧ y < 16) (hz : 0 ≤ z ∧ z < 16) (hap : ApIs w (.lit 13) x y z n)
    (r' : List Int) (pc' : Int) (cyc' : Int) (hr' : r' = setR r x (sumF 1 (rgL r y) (w32 n))) (hpc' : pc' = w32 (pc + 4)) (hcyc' : cyc' = i64 (cyc + 1)) : RTailOk ⟨r, pc, vec, back, on, hdl⟩ bd F w cyc (.lit 0) ⟨1, cyc', 0, 0, 0, 0, false, 0, false, 0⟩ ⟨r', pc', vec, back, on, hdl⟩ bd := by
  refine kcode I13ok 6 ⟨[1000025], 0⟩ tail13_chk ?_
  conv => cbv
  refine OkCall.by_spec hap [] (by decide) (by cbv) trivial ?_
  conv => cbv
  refine kregG I13ok 6 [] (by kernel_rfl) ?_
  conv => cbv
  refine ACall.of_spec (closedL rfl) rfl short_14 ?_
  conv => cbv
  repeat (first | refine And.intro (inR.mk (by omega) (by omega)) ?_ | refine And.intro (nLt.mk (by simp only [leafs]; omega)) ?_)
  conv => cbv
  obtain ⟨xa, hexa⟩ : ∃ v, gi r (toN y) = v := ⟨_, rfl⟩
  have hgxa := hexa
  rw [giR] at hgxa
  have hUxa : U32 xa := by rw [← hgxa]; exact rg_ok hs y
  show ACall kit 34 [.i .i64 (.lit 0), .i .u32 (.ex (gi r (toN y))), .i .u32 (.ex (convI .u32 n))] _ _
  rw [hexa, conv_imm]
  have hUb : U32 (w32 n) := w32_ok n
  generalize w32 n = xb at *
  rw [hgxa] at hr'
  generalize hv : sumF 1 xa xb = v at hr'
  refine rsuma_1 hUxa hUb hv.symm ?_
  conv => cbv
  refine Br.mk (fun hc => ?_) (fun hc => ?_)
  · replace hc : notB (eqI x 0) = true := hc
    rw [notB_eq, eqI_eq, Bool.not_eq_true', beq_eq_false_iff_ne] at hc
    conv => cbv
    repeat (first | refine And.intro (inR.mk (by omega) (by omega)) ?_ | refine And.intro (nLt.mk (by simp only [leafs]; omega)) ?_)
    conv => cbv
    refine kcode I13ok 6 ⟨[], 0⟩ (by kernel_rfl) ?_
    conv => cbv
    refine (LeOut.mk' [0, 1, 2] (by decide) rfl id ?_ ?_).two
    · conv => cbv
      exact ⟨by rw [hcyc']; show _ = addI .i64 cyc 1; rw [addI_eq]; rfl, trivial⟩
    · conv => cbv
      refine ⟨⟨?_, by rw [hpc']; exact (pc4 pc).symm, trivial⟩, trivial⟩
      show r' = setI r (toN x) (v)
      rw [setI_eq, toN_eq, hr', setR_ne hz0 hx.1 hc]
  · replace hc : notB (eqI x 0) = false := hc
    rw [notB_eq, eqI_eq, Bool.not_eq_false', beq_iff_eq] at hc
    conv => cbv
    repeat (first | refine And.intro (inR.mk (by omega) (by omega)) ?_ | refine And.intro (nLt.mk (by simp only [leafs]; omega)) ?_)
    conv => cbv
    refine kcode I13ok 6 ⟨[], 0⟩ (by kernel_rfl) ?_
    conv => cbv
    refine (LeOut.mk' [0, 1, 2] (by decide) rfl id ?_ ?_).two
    · conv => cbv
      exact ⟨by rw [hcyc']; show _ = addI .i64 cyc 1; rw [addI_eq]; rfl, trivial⟩
    · conv => cbv
      refine ⟨⟨?_, by rw [hpc']; exact (pc4 pc).symm, trivial⟩, trivial⟩
      rw [hr', hc, setR_zero hz0]

theorem rtail_15 (r : List Int) (pc vec back : Int) (on hdl : Bool) (bd : BoardS) (F) (w cyc x y z n : Int) (hs : RegOk ⟨r, pc, vec, back, on, hdl⟩) (hz0 : r.set 0 0 = r) (hbd : BdOk bd) (hx : 0 ≤ x ∧ x < 16) (hy : 0 ≤ y ∧ y < 16) (hz : 0 ≤ z ∧ z < 16) (hap : ApIs w (.lit 14) x y z n)
    (r' : List Int) (pc' : Int) (cyc' : Int) (hr' : r' = setR r x (sumF 6 (rgL r y) (w32 n))) (hpc' : pc' = w32 (pc + 4)) (hcyc' : cyc' = i64 (cyc + 1)) : RTailOk ⟨r, pc, vec, back, on, hdl⟩ bd F w cyc (.lit 0) ⟨1, cyc', 0, 0, 0, 0, false, 0, false, 0⟩ ⟨r', pc', vec, back, on, hdl⟩ bd := by
  refine kcode I13ok 6 ⟨[1000025], 0⟩ tail13_chk ?_
  conv => cbv
  refine OkCall.by_spec hap [] (by decide) (by cbv) trivial ?_
  conv => cbv
  refine kregG I13ok 6 [] (by kernel_rfl) ?_
  conv => cbv
  refine ACall.of_spec (closedL rfl) rfl short_15 ?_
  conv => cbv
  repeat (first | refine And.intro (inR.mk (by omega) (by omega)) ?_ | refine And.intro (nLt.mk (by simp only [leafs]; omega)) ?_)
  conv => cbv
  obtain ⟨xa, hexa⟩ : ∃ v, gi r (toN y) = v := ⟨_, rfl⟩
  have hgxa := hexa
  rw [giR] at hgxa
  have hUxa : U32 xa := by rw [← hgxa]; exact rg_ok hs y
  show ACall kit 34 [.i .i64 (.lit 5), .i .u32 (.ex (gi r (toN y))), .i .u32 (.ex (convI .u32 n))] _ _
  rw [hexa, conv_imm]
  have hUb : U32 (w32 n) := w32_ok n
  generalize w32 n = xb at *
  rw [hgxa] at hr'
  generalize hv : sumF 6 xa xb = v at hr'
  refine rsuma_6 hUxa hUb hv.symm ?_
  conv => cbv
  refine Br.mk (fun hc => ?_) (fun hc => ?_)
  · replace hc : notB (eqI x 0) = true := hc
    rw [notB_eq, eqI_eq, Bool.not_eq_true', beq_eq_false_iff_ne] at hc
    conv => cbv
    repeat (first | refine And.intro (inR.mk (by omega) (by omega)) ?_ | refine And.intro (nLt.mk (by simp only [leafs]; omega)) ?_)
    conv => cbv
    refine kcode I13ok 6 ⟨[], 0⟩ (by kernel_rfl) ?_
    conv => cbv
    refine (LeOut.mk' [0, 1, 2] (by decide) rfl id ?_ ?_).two
    · conv => cbv
      exact ⟨by rw [hcyc']; show _ = addI .i64 cyc 1; rw [addI_eq]; rfl, trivial⟩
    · conv => cbv
      refine ⟨⟨?_, by rw [hpc']; exact (pc4 pc).symm, trivial⟩, trivial⟩
      show r' = setI r (toN x) (v)
      rw [setI_eq, toN_eq, hr', setR_ne hz0 hx.1 hc]
  · replace hc : notB (eqI x 0) = false := hc
    rw [notB_eq, eqI_eq, Bool.not_eq_false', beq_iff_eq] at hc
    conv => cbv
    repeat (first | refine And.intro (inR.mk (by omega) (by omega)) ?_ | refine And.intro (nLt.mk (by simp only [leafs]; omega)) ?_)
    conv => cbv
    refine kcode I13ok 6 ⟨[], 0⟩ (by kernel_rfl) ?_
    conv => cbv
    refine (LeOut.mk' [0, 1, 2] (by decide) rfl id ?_ ?_).two
    · conv => cbv
      exact ⟨by rw [hcyc']; show _ = addI .i64 cyc 1; rw [addI_eq]; rfl, trivial⟩
    · conv => cbv
      refine ⟨⟨?_, by rw [hpc']; exact (pc4 pc).symm, trivial⟩, trivial⟩
      rw [hr', hc, setR_zero hz0]

theorem rtail_16 (r : List Int) (pc vec back : Int) (on hdl : Bool) (bd : BoardS) (F) (w cyc x y z n : Int) (hs : RegOk ⟨r, pc, vec, back, on, hdl⟩) (hz0 : r.set 0 0 = r) (hbd : BdOk bd) (hx : 0 ≤ x ∧ x < 16) (hy : 0 ≤ y ∧ y < 16) (hz : 0 ≤ z ∧ z < 16) (hap : ApIs w (.lit 15) x y z n)
    (r' : List Int) (pc' : Int) (cyc' : Int) (hr' : r' = setR r x (sumF 7 (rgL r y) (w32 n))) (hpc' : pc' = w32 (pc + 4)) (hcyc' : cyc' = i64 (cyc + 1)) : RTailOk ⟨r, pc, vec, back, on, hdl⟩ bd F w cyc (.lit 0) ⟨1, cyc', 0, 0, 0, 0, false, 0, false, 0⟩ ⟨r', pc', vec, back, on, hdl⟩ bd := by
  refine kcode I13ok 6 ⟨[1000025], 0⟩ tail13_chk ?_
  conv => cbv
  refine OkCall.by_spec hap [] (by decide) (by cbv) trivial ?_
  conv => cbv
  refine kregG I13ok 6 [] (by kernel_rfl) ?_
  conv => cbv
  refine ACall.of_spec (closedL rfl) rfl short_16 ?_
  conv => cbv
  repeat (first | refine And.intro (inR.mk (by omega) (by omega)) ?_ | refine And.intro (nLt.mk (by simp only [leafs]; omega)) ?_)
  conv => cbv
  obtain ⟨xa, hexa⟩ : ∃ v, gi r (toN y) = v := ⟨_, rfl⟩
  have hgxa := hexa
  rw [giR] at hgxa
  have hUxa : U32 xa := by rw [← hgxa]; exact rg_ok hs y
  show ACall kit 34 [.i .i64 (.lit 6), .i .u32 (.ex (gi r (toN y))), .i .u32 (.ex (convI .u32 n))] _ _
  rw [hexa, conv_imm]
  have hUb : U32 (w32 n) := w32_ok n
  generalize w32 n = xb at *
  rw [hgxa] at hr'
  generalize hv : sumF 7 xa xb = v at hr'
  refine rsuma_7 hUxa hUb hv.symm ?_
  conv => cbv
  refine Br.mk (fun hc => ?_) (fun hc => ?_)
  · replace hc : notB (eqI x 0) = true := hc
    rw [notB_eq, eqI_eq, Bool.not_eq_true', beq_eq_false_iff_ne] at hc
    conv => cbv
    repeat (first | refine And.intro (inR.mk (by omega) (by omega)) ?_ | refine And.intro (nLt.mk (by simp only [leafs]; omega)) ?_)
    conv => cbv
    refine kcode I13ok 6 ⟨[], 0⟩ (by kernel_rfl) ?_
    conv => cbv
    refine (LeOut.mk' [0, 1, 2] (by decide) rfl id ?_ ?_).two
    · conv => cbv
      exact ⟨by rw [hcyc']; show _ = addI .i64 cyc 1; rw [addI_eq]; rfl, trivial⟩
    · conv => cbv
      refine ⟨⟨?_, by rw [hpc']; exact (pc4 pc).symm, trivial⟩, trivial⟩
      show r' = setI r (toN x) (v)
      rw [setI_eq, toN_eq, hr', setR_ne hz0 hx.1 hc]
  · replace hc : notB (eqI x 0) = false := hc
    rw [notB_eq, eqI_eq, Bool.not_eq_false', beq_iff_eq] at hc
    conv => cbv
    repeat (first | refine And.intro (inR.mk (by omega) (by omega)) ?_ | refine And.intro (nLt.mk (by simp only [leafs]; omega)) ?_)
    conv => cbv
    refine kcode I13ok 6 ⟨[], 0⟩ (by kernel_rfl) ?_
    conv => cbv
    refine (LeOut.mk' [0, 1, 2] (by decide) rfl id ?_ ?_).two
    · conv => cbv
      exact ⟨by rw [hcyc']; show _ = addI .i64 cyc 1; rw [addI_eq]; rfl, trivial⟩
    · conv => cbv
      refine ⟨⟨?_, by rw [hpc']; exact (pc4 pc).symm, trivial⟩, trivial⟩
      rw [hr', hc, setR_zero hz0]

theorem rtail_17 (r : List Int) (pc vec back : Int) (on hdl : Bool) (bd : BoardS) (F) (w cyc x y z n : Int) (hs : RegOk ⟨r, pc, vec, back, on, hdl⟩) (hz0 : r.set 0 0 = r) (hbd : BdOk bd) (hx : 0 ≤ x ∧ x < 16) (hy : 0 ≤ y ∧ y < 16) (hz : 0 ≤ z ∧ z < 16) (hap : ApIs w (.lit 16) x y z n)
    (r' : List Int) (pc' : Int) (cyc' : Int) (hr' : r' = setR r x (sumF 8 (rgL r y) (w32 n))) (hpc' : pc' = w32 (pc + 4)) (hcyc' : cyc' = i64 (cyc + 1)) : RTailOk ⟨r, pc, vec, back, on, hdl⟩ bd F w cyc (.lit 0) ⟨1, cyc', 0, 0, 0, 0, false, 0, false, 0⟩ ⟨r', pc', vec, back, on, hdl⟩ bd := by
  refine kcode I13ok 6 ⟨[1000025], 0⟩ tail13_chk ?_
  conv => cbv
  refine OkCall.by_spec hap [] (by decide) (by cbv) trivial ?_
  conv => cbv
  refine kregG I13ok 6 [] (by kernel_rfl) ?_
  conv => cbv
  refine ACall.of_spec (closedL rfl) rfl short_17 ?_
  conv => cbv
  repeat (first | refine And.intro (inR.mk (by omega) (by omega)) ?_ | refine And.intro (nLt.mk (by simp only [leafs]; omega)) ?_)
  conv => cbv
  obtain ⟨xa, hexa⟩ : ∃ v, gi r (toN y) = v := ⟨_, rfl⟩
  have hgxa := hexa
  rw [giR] at hgxa
  have hUxa : U32 xa := by rw [← hgxa]; exact rg_ok hs y
  show ACall kit 34 [.i .i64 (.lit 7), .i .u32 (.ex (gi r (toN y))), .i .u32 (.ex (convI .u32 n))] _ _
  rw [hexa, conv_imm]
  have hUb : U32 (w32 n) := w32_ok n
  generalize w32 n = xb at *
  rw [hgxa] at hr'
  generalize hv : sumF 8 xa xb = v at hr'
  refine rsuma_8 hUxa hUb hv.symm ?_
  conv => cbv
  refine Br.mk (fun hc => ?_) (fun hc => ?_)
  · replace hc : notB (eqI x 0) = true := hc
    rw [notB_eq, eqI_eq, Bool.not_eq_true', beq_eq_false_iff_ne] at hc
    conv => cbv
    repeat (first | refine And.intro (inR.mk (by omega) (by omega)) ?_ | refine And.intro (nLt.mk (by simp only [leafs]; omega)) ?_)
    conv => cbv
    refine kcode I13ok 6 ⟨[], 0⟩ (by kernel_rfl) ?_
    conv => cbv
    refine (LeOut.mk' [0, 1, 2] (by decide) rfl id ?_ ?_).two
    · conv => cbv
      exact ⟨by rw [hcyc']; show _ = addI .i64 cyc 1; rw [addI_eq]; rfl, trivial⟩
    · conv => cbv
      refine ⟨⟨?_, by rw [hpc']; exact (pc4 pc).symm, trivial⟩, trivial⟩
      show r' = setI r (toN x) (v)
      rw [setI_eq, toN_eq, hr', setR_ne hz0 hx.1 hc]
  · replace hc : notB (eqI x 0) = false := hc
    rw [notB_eq, eqI_eq, Bool.not_eq_false', beq_iff_eq] at hc
    conv => cbv
    repeat (first | refine And.intro (inR.mk (by omega) (by omega)) ?_ | refine And.intro (nLt.mk (by simp only [leafs]; omega)) ?_)
    conv => cbv
    refine kcode I13ok 6 ⟨[], 0⟩ (by kernel_rfl) ?_
    conv => cbv
    refine (LeOut.mk' [0, 1, 2] (by decide) rfl id ?_ ?_).two
    · conv => cbv
      exact ⟨by rw [hcyc']; show _ = addI .i64 cyc 1; rw [addI_eq]; rfl, trivial⟩
    · conv => cbv
      refine ⟨⟨?_, by rw [hpc']; exact (pc4 pc).symm, trivial⟩, trivial⟩
      rw [hr', hc, setR_zero hz0]

theorem rtail_18 (r : List Int) (pc vec back : Int) (on hdl : Bool) (bd : BoardS) (F) (w cyc x y z n : Int) (hs : RegOk ⟨r, pc, vec, back, on, hdl⟩) (hz0 : r.set 0 0 = r) (hbd : BdOk bd) (hx : 0 ≤ x ∧ x < 16) (hy : 0 ≤ y ∧ y < 16) (hz : 0 ≤ z ∧ z < 16) (hap : ApIs w (.lit 17) x y z n)
    (r' : List Int) (pc' : Int) (cyc' : Int) (hr' : r' = setR r x (sumF 9 (rgL r y) (w32 n))) (hpc' : pc' = w32 (pc + 4)) (hcyc' : cyc' = i64 (cyc + 1)) : RTailOk ⟨r, pc, vec, back, on, hdl⟩ bd F w cyc (.lit 0) ⟨1, cyc', 0, 0, 0, 0, false, 0, false, 0⟩ ⟨r', pc', vec, back, on, hdl⟩ bd := by
  refine kcode I13ok 6 ⟨[1000025], 0⟩ tail13_chk ?_
  conv => cbv
  refine OkCall.by_spec hap [] (by decide) (by cbv) trivial ?_
  conv => cbv
  refine kregG I13ok 6 [] (by kernel_rfl) ?_
  conv => cbv
  refine ACall.of_spec (closedL rfl) rfl short_18 ?_
  conv => cbv
  repeat (first | refine And.intro (inR.mk (by omega) (by omega)) ?_ | refine And.intro (nLt.mk (by simp only [leafs]; omega)) ?_)
  conv => cbv
  obtain ⟨xa, hexa⟩ : ∃ v, gi r (toN y) = v := ⟨_, rfl⟩
  have hgxa := hexa
  rw [giR] at hgxa
  have hUxa : U32 xa := by rw [← hgxa]; exact rg_ok hs y
  show ACall kit 34 [.i .i64 (.lit 8), .i .u32 (.ex (gi r (toN y))), .i .u32 (.ex (convI .u32 n))] _ _
  rw [hexa, conv_imm]
  have hUb : U32 (w32 n) := w32_ok n
  generalize w32 n = xb at *
  rw [hgxa] at hr'
  generalize hv : sumF 9 xa xb = v at hr'
  refine rsuma_9 hUxa hUb hv.symm ?_
  conv => cbv
  refine Br.mk (fun hc => ?_) (fun hc => ?_)
  · replace hc : notB (eqI x 0) = true := hc
    rw [notB_eq, eqI_eq, Bool.not_eq_true', beq_eq_false_iff_ne] at hc
    conv => cbv
    repeat (first | refine And.intro (inR.mk (by omega) (by omega)) ?_ | refine And.intro (nLt.mk (by simp only [leafs]; omega)) ?_)
    conv => cbv
    refine kcode I13ok 6 ⟨[], 0⟩ (by kernel_rfl) ?_
    conv => cbv
    refine (LeOut.mk' [0, 1, 2] (by decide) rfl id ?_ ?_).two
    · conv => cbv
      exact ⟨by rw [hcyc']; show _ = addI .i64 cyc 1; rw [addI_eq]; rfl, trivial⟩
    · conv => cbv
      refine ⟨⟨?_, by rw [hpc']; exact (pc4 pc).symm, trivial⟩, trivial⟩
      show r' = setI r (toN x) (v)
      rw [setI_eq, toN_eq, hr', setR_ne hz0 hx.1 hc]
  · replace hc : notB (eqI x 0) = false := hc
    rw [notB_eq, eqI_eq, Bool.not_eq_false', beq_iff_eq] at hc
    conv => cbv
    repeat (first | refine And.intro (inR.mk (by omega) (by omega)) ?_ | refine And.intro (nLt.mk (by simp only [leafs]; omega)) ?_)
    conv => cbv
    refine kcode I13ok 6 ⟨[], 0⟩ (by kernel_rfl) ?_
    conv => cbv
    refine (LeOut.mk' [0, 1, 2] (by decide) rfl id ?_ ?_).two
    · conv => cbv
      exact ⟨by rw [hcyc']; show _ = addI .i64 cyc 1; rw [addI_eq]; rfl, trivial⟩
    · conv => cbv
      refine ⟨⟨?_, by rw [hpc']; exact (pc4 pc).symm, trivial⟩, trivial⟩
      rw [hr', hc, setR_zero hz0]

theorem rtail_19 (r : List Int) (pc vec back : Int) (on hdl : Bool) (bd : BoardS) (F) (w cyc x y z n : Int) (hs : RegOk ⟨r, pc, vec, back, on, hdl⟩) (hz0 : r.set 0 0 = r) (hbd : BdOk bd) (hx : 0 ≤ x ∧ x < 16) (hy : 0 ≤ y ∧ y < 16) (hz : 0 ≤ z ∧ z < 16) (hap : ApIs w (.lit 18) x y z n)
    (r' : List Int) (pc' : Int) (cyc' : Int) (hr' : r' = setR r x (sumF 10 (rgL r y) (w32 n))) (hpc' : pc' = w32 (pc + 4)) (hcyc' : cyc' = i64 (cyc + 1)) : RTailOk ⟨r, pc, vec, back, on, hdl⟩ bd F w cyc (.lit 0) ⟨1, cyc', 0, 0, 0, 0, false, 0, false, 0⟩ ⟨r', pc', vec, back, on, hdl⟩ bd := by
  refine kcode I13ok 6 ⟨[1000025], 0⟩ tail13_chk ?_
  conv => cbv
  refine OkCall.by_spec hap [] (by decide) (by cbv) trivial ?_
  conv => cbv
  refine kregG I13ok 6 [] (by kernel_rfl) ?_
  conv => cbv
  refine ACall.of_spec (closedL rfl) rfl short_19 ?_
  conv => cbv
  repeat (first | refine And.intro (inR.mk (by omega) (by omega)) ?_ | refine And.intro (nLt.mk (by simp only [leafs]; omega)) ?_)
  conv => cbv
  obtain ⟨xa, hexa⟩ : ∃ v, gi r (toN y) = v := ⟨_, rfl⟩
  have hgxa := hexa
  rw [giR] at hgxa
  have hUxa : U32 xa := by rw [← hgxa]; exact rg_ok hs y
  show ACall kit 34 [.i .i64 (.lit 9), .i .u32 (.ex (gi r (toN y))), .i .u32 (.ex (convI .u32 n))] _ _
  rw [hexa, conv_imm]
  have hUb : U32 (w32 n) := w32_ok n
  generalize w32 n = xb at *
  rw [hgxa] at hr'
  generalize hv : sumF 10 xa xb = v at hr'
  refine rsuma_10 hUxa hUb hv.symm ?_
  conv => cbv
  refine Br.mk (fun hc => ?_) (fun hc => ?_)
  · replace hc : notB (eqI x 0) = true := hc
    rw [notB_eq, eqI_eq, Bool.not_eq_true', beq_eq_false_iff_ne] at hc
    conv => cbv
    repeat (first | refine And.intro (inR.mk (by omega) (by omega)) ?_ | refine And.intro (nLt.mk (by simp only [leafs]; omega)) ?_)
    conv => cbv
    refine kcode I13ok 6 ⟨[], 0⟩ (by kernel_rfl) ?_
    conv => cbv
    refine (LeOut.mk' [0, 1, 2] (by decide) rfl id ?_ ?_).two
    · conv => cbv
      exact ⟨by rw [hcyc']; show _ = addI .i64 cyc 1; rw [addI_eq]; rfl, trivial⟩
    · conv => cbv
      refine ⟨⟨?_, by rw [hpc']; exact (pc4 pc).symm, trivial⟩, trivial⟩
      show r' = setI r (toN x) (v)
      rw [setI_eq, toN_eq, hr', setR_ne hz0 hx.1 hc]
  · replace hc : notB (eqI x 0) = false := hc
    rw [notB_eq, eqI_eq, Bool.not_eq_false', beq_iff_eq] at hc
    conv => cbv
    repeat (first | refine And.intro (inR.mk (by omega) (by omega)) ?_ | refine And.intro (nLt.mk (by simp only [leafs]; omega)) ?_)
    conv => cbv
    refine kcode I13ok 6 ⟨[], 0⟩ (by kernel_rfl) ?_
    conv => cbv
    refine (LeOut.mk' [0, 1, 2] (by decide) rfl id ?_ ?_).two
    · conv => cbv
      exact ⟨by rw [hcyc']; show _ = addI .i64 cyc 1; rw [addI_eq]; rfl, trivial⟩
    · conv => cbv
      refine ⟨⟨?_, by rw [hpc']; exact (pc4 pc).symm, trivial⟩, trivial⟩
      rw [hr', hc, setR_zero hz0]

theorem rtail_20 (r : List Int) (pc vec back : Int) (on hdl : Bool) (bd : BoardS) (F) (w cyc x y z n : Int) (hs : RegOk ⟨r, pc, vec, back, on, hdl⟩) (hz0 : r.set 0 0 = r) (hbd : BdOk bd) (hx : 0 ≤ x ∧ x < 16) (hy : 0 ≤ y ∧ y < 16) (hz : 0 ≤ z ∧ z < 16) (hap : ApIs w (.lit 19) x y z n)
    (r' : List Int) (pc' : Int) (cyc' : Int) (hr' : r' = setR r x (sumF 11 (rgL r y) (w32 n))) (hpc' : pc' = w32 (pc + 4)) (hcyc' : cyc' = i64 (cyc + 1)) : RTailOk ⟨r, pc, vec, back, on, hdl⟩ bd F w cyc (.lit 0) ⟨1, cyc', 0, 0, 0, 0, false, 0, false, 0⟩ ⟨r', pc', vec, back, on, hdl⟩ bd := by
  refine kcode I13ok 6 ⟨[1000025], 0⟩ tail13_chk ?_
  conv => cbv
  refine OkCall.by_spec hap [] (by decide) (by cbv) trivial ?_
  conv => cbv
  refine kregG I13ok 6 [] (by kernel_rfl) ?_
  conv => cbv
  refine ACall.of_spec (closedL rfl) rfl short_20 ?_
  conv => cbv
  repeat (first | refine And.intro (inR.mk (by omega) (by omega)) ?_ | refine And.intro (nLt.mk (by simp only [leafs]; omega)) ?_)
  conv => cbv
  obtain ⟨xa, hexa⟩ : ∃ v, gi r (toN y) = v := ⟨_, rfl⟩
  have hgxa := hexa
  rw [giR] at hgxa
  have hUxa : U32 xa := by rw [← hgxa]; exact rg_ok hs y
  show ACall kit 34 [.i .i64 (.lit 10), .i .u32 (.ex (gi r (toN y))), .i .u32 (.ex (convI .u32 n))] _ _
  rw [hexa, conv_imm]
  have hUb : U32 (w32 n) := w32_ok n
  generalize w32 n = xb at *
  rw [hgxa] at hr'
  generalize hv : sumF 11 xa xb = v at hr'
  refine rsuma_11 hUxa hUb hv.symm ?_
  conv => cbv
  refine Br.mk (fun hc => ?_) (fun hc => ?_)
  · replace hc : notB (eqI x 0) = true := hc
    rw [notB_eq, eqI_eq, Bool.not_eq_true', beq_eq_false_iff_ne] at hc
    conv => cbv
    repeat (first | refine And.intro (inR.mk (by omega) (by omega)) ?_ | refine And.intro (nLt.mk (by simp only [leafs]; omega)) ?_)
    conv => cbv
    refine kcode I13ok 6 ⟨[], 0⟩ (by kernel_rfl) ?_
    conv => cbv
    refine (LeOut.mk' [0, 1, 2] (by decide) rfl id ?_ ?_).two
    · conv => cbv
      exact ⟨by rw [hcyc']; show _ = addI .i64 cyc 1; rw [addI_eq]; rfl, trivial⟩
    · conv => cbv
      refine ⟨⟨?_, by rw [hpc']; exact (pc4 pc).symm, trivial⟩, trivial⟩
      show r' = setI r (toN x) (v)
      rw [setI_eq, toN_eq, hr', setR_ne hz0 hx.1 hc]
  · replace hc : notB (eqI x 0) = false := hc
    rw [notB_eq, eqI_eq, Bool.not_eq_false', beq_iff_eq] at hc
    conv => cbv
    repeat (first | refine And.intro (inR.mk (by omega) (by omega)) ?_ | refine And.intro (nLt.mk (by simp only [leafs]; omega)) ?_)
    conv => cbv
    refine kcode I13ok 6 ⟨[], 0⟩ (by kernel_rfl) ?_
    conv => cbv
    refine (LeOut.mk' [0, 1, 2] (by decide) rfl id ?_ ?_).two
    · conv => cbv
      exact ⟨by rw [hcyc']; show _ = addI .i64 cyc 1; rw [addI_eq]; rfl, trivial⟩
    · conv => cbv
      refine ⟨⟨?_, by rw [hpc']; exact (pc4 pc).symm, trivial⟩, trivial⟩
      rw [hr', hc, setR_zero hz0]

theorem rtail_21 (r : List Int) (pc vec back : Int) (on hdl : Bool) (bd : BoardS) (F) (w cyc x y z n : Int) (hs : RegOk ⟨r, pc, vec, back, on, hdl⟩) (hz0 : r.set 0 0 = r) (hbd : BdOk bd) (hx : 0 ≤ x ∧ x < 16) (hy : 0 ≤ y ∧ y < 16) (hz : 0 ≤ z ∧ z < 16) (hap : ApIs w (.lit 20) x y z n)
    (r' : List Int) (pc' : Int) (cyc' : Int) (hr' : r' = setR r x (sumF 12 (rgL r y) (w32 n))) (hpc' : pc' = w32 (pc + 4)) (hcyc' : cyc' = i64 (cyc + 1)) : RTailOk ⟨r, pc, vec, back, on, hdl⟩ bd F w cyc (.lit 0) ⟨1, cyc', 0, 0, 0, 0, false, 0, false, 0⟩ ⟨r', pc', vec, back, on, hdl⟩ bd := by
  refine kcode I13ok 6 ⟨[1000025], 0⟩ tail13_chk ?_
  conv => cbv
  refine OkCall.by_spec hap [] (by decide) (by cbv) trivial ?_
  conv => cbv
  refine kregG I13ok 6 [] (by kernel_rfl) ?_
  conv => cbv
  refine ACall.of_spec (closedL rfl) rfl short_21 ?_
  conv => cbv
  repeat (first | refine And.intro (inR.mk (by omega) (by omega)) ?_ | refine And.intro (nLt.mk (by simp only [leafs]; omega)) ?_)
  conv => cbv
  obtain ⟨xa, hexa⟩ : ∃ v, gi r (toN y) = v := ⟨_, rfl⟩
  have hgxa := hexa
  rw [giR] at hgxa
  have hUxa : U32 xa := by rw [← hgxa]; exact rg_ok hs y
  show ACall kit 34 [.i .i64 (.lit 11), .i .u32 (.ex (gi r (toN y))), .i .u32 (.ex (convI .u32 n))] _ _
  rw [hexa, conv_imm]
  have hUb : U32 (w32 n) := w32_ok n
  generalize w32 n = xb at *
  rw [hgxa] at hr'
  generalize hv : sumF 12 xa xb = v at hr'
  refine rsuma_12 hUxa hUb hv.symm ?_
  conv => cbv
  refine Br.mk (fun hc => ?_) (fun hc => ?_)
  · replace hc : notB (eqI x 0) = true := hc
    rw [notB_eq, eqI_eq, Bool.not_eq_true', beq_eq_false_iff_ne] at hc
    conv => cbv
    repeat (first | refine And.intro (inR.mk (by omega) (by omega)) ?_ | refine And.intro (nLt.mk (by simp only [leafs]; omega)) ?_)
    conv => cbv
    refine kcode I13ok 6 ⟨[], 0⟩ (by kernel_rfl) ?_
    conv => cbv
    refine (LeOut.mk' [0, 1, 2] (by decide) rfl id ?_ ?_).two
    · conv => cbv
      exact ⟨by rw [hcyc']; show _ = addI .i64 cyc 1; rw [addI_eq]; rfl, trivial⟩
    · conv => cbv
      refine ⟨⟨?_, by rw [hpc']; exact (pc4 pc).symm, trivial⟩, trivial⟩
      show r' = setI r (toN x) (v)
      rw [setI_eq, toN_eq, hr', setR_ne hz0 hx.1 hc]
  · replace hc : notB (eqI x 0) = false := hc
    rw [notB_eq, eqI_eq, Bool.not_eq_false', beq_iff_eq] at hc
    conv => cbv
    repeat (first | refine And.intro (inR.mk (by omega) (by omega)) ?_ | refine And.intro (nLt.mk (by simp only [leafs]; omega)) ?_)
    conv => cbv
    refine kcode I13ok 6 ⟨[], 0⟩ (by kernel_rfl) ?_
    conv => cbv
    refine (LeOut.mk' [0, 1, 2] (by decide) rfl id ?_ ?_).two
    · conv => cbv
      exact ⟨by rw [hcyc']; show _ = addI .i64 cyc 1; rw [addI_eq]; rfl, trivial⟩
    · conv => cbv
      refine ⟨⟨?_, by rw [hpc']; exact (pc4 pc).symm, trivial⟩, trivial⟩
      rw [hr', hc, setR_zero hz0]

theorem rtail_22 (r : List Int) (pc vec back : Int) (on hdl : Bool) (bd : BoardS) (F) (w cyc x y z n : Int) (hs : RegOk ⟨r, pc, vec, back, on, hdl⟩) (hz0 : r.set 0 0 = r) (hbd : BdOk bd) (hx : 0 ≤ x ∧ x < 16) (hy : 0 ≤ y ∧ y < 16) (hz : 0 ≤ z ∧ z < 16) (hap : ApIs w (.lit 21) x y z n)
    (r' : List Int) (pc' : Int) (cyc' : Int) (hr' : r' = setR r x (sumF 13 (rgL r y) (w32 n))) (hpc' : pc' = w32 (pc + 4)) (hcyc' : cyc' = i64 (cyc + 1)) : RTailOk ⟨r, pc, vec, back, on, hdl⟩ bd F w cyc (.lit 0) ⟨1, cyc', 0, 0, 0, 0, false, 0, false, 0⟩ ⟨r', pc', vec, back, on, hdl⟩ bd := by
  refine kcode I13ok 6 ⟨[1000025], 0⟩ tail13_chk ?_
  conv => cbv
  refine OkCall.by_spec hap [] (by decide) (by cbv) trivial ?_
  conv => cbv
  refine kregG I13ok 6 [] (by kernel_rfl) ?_
  conv => cbv
  refine ACall.of_spec (closedL rfl) rfl short_22 ?_
  conv => cbv
  repeat (first | refine And.intro (inR.mk (by omega) (by omega)) ?_ | refine And.intro (nLt.mk (by simp only [leafs]; omega)) ?_)
  conv => cbv
  obtain ⟨xa, hexa⟩ : ∃ v, gi r (toN y) = v := ⟨_, rfl⟩
  have hgxa := hexa
  rw [giR] at hgxa
  have hUxa : U32 xa := by rw [← hgxa]; exact rg_ok hs y
  show ACall kit 34 [.i .i64 (.lit 12), .i .u32 (.ex (gi r (toN y))), .i .u32 (.ex (convI .u32 n))] _ _
  rw [hexa, conv_imm]
  have hUb : U32 (w32 n) := w32_ok n
  generalize w32 n = xb at *
  rw [hgxa] at hr'
  generalize hv : sumF 13 xa xb = v at hr'
  refine rsuma_13 hUxa hUb hv.symm ?_
  conv => cbv
  refine Br.mk (fun hc => ?_) (fun hc => ?_)
  · replace hc : notB (eqI x 0) = true := hc
    rw [notB_eq, eqI_eq, Bool.not_eq_true', beq_eq_false_iff_ne] at hc
    conv => cbv
    repeat (first | refine And.intro (inR.mk (by omega) (by omega)) ?_ | refine And.intro (nLt.mk (by simp only [leafs]; omega)) ?_)
    conv => cbv
    refine kcode I13ok 6 ⟨[], 0⟩ (by kernel_rfl) ?_
    conv => cbv
    refine (LeOut.mk' [0, 1, 2] (by decide) rfl id ?_ ?_).two
    · conv => cbv
      exact ⟨by rw [hcyc']; show _ = addI .i64 cyc 1; rw [addI_eq]; rfl, trivial⟩
    · conv => cbv
      refine ⟨⟨?_, by rw [hpc']; exact (pc4 pc).symm, trivial⟩, trivial⟩
      show r' = setI r (toN x) (v)
      rw [setI_eq, toN_eq, hr', setR_ne hz0 hx.1 hc]
  · replace hc : notB (eqI x 0) = false := hc
    rw [notB_eq, eqI_eq, Bool.not_eq_false', beq_iff_eq] at hc
    conv => cbv
    repeat (first | refine And.intro (inR.mk (by omega) (by omega)) ?_ | refine And.intro (nLt.mk (by simp only [leafs]; omega)) ?_)
    conv => cbv
    refine kcode I13ok 6 ⟨[], 0⟩ (by kernel_rfl) ?_
    conv => cbv
    refine (LeOut.mk' [0, 1, 2] (by decide) rfl id ?_ ?_).two
    · conv => cbv
      exact ⟨by rw [hcyc']; show _ = addI .i64 cyc 1; rw [addI_eq]; rfl, trivial⟩
    · conv => cbv
      refine ⟨⟨?_, by rw [hpc']; exact (pc4 pc).symm, trivial⟩, trivial⟩
      rw [hr', hc, setR_zero hz0]

end Go.Proofs.YtkljgpepogkgdaaDoor
