/-
  CoreGoes: the walk.
-/
import Derived.Test.YtkljgpepogkgdaaDoorLE
import Derived.Test.YtkljgpepogkgdaaDoorLC
set_option linter.unusedVariables false
set_option linter.unusedSimpArgs false
namespace Go.Proofs.YtkljgpepogkgdaaDoor
open Go Go.Vex
set_option maxRecDepth 20000
set_option maxHeartbeats 4000000
noncomputable def I9 : FnT := [(9, fi Tryd.f9 ⟨[9, 1], 0⟩)]
theorem I9ok : FnsOk kit I9 := ⟨fo9 _, trivial⟩
theorem goes_walk : opnArgs tab 9 [25, 21, 3] 1 (lawK 9 [.glob 0 layoutsL]) := by
  conv => cbv
  intro R hR1 hR2
  conv => cbv
  intro pc hpc
  conv => cbv
  intro vec hvec
  conv => cbv
  intro back hback
  conv => cbv
  intro on
  conv => cbv
  intro hdl
  conv => cbv
  intro imm0 himm0
  conv => cbv
  intro which hwhich
  conv => cbv
  intro A
  obtain ⟨r0, hr0⟩ : ∃ x, R.set 0 0 = x := ⟨_, rfl⟩
  have hreg : RegOk ⟨R, pc, vec, back, false, hdl⟩ := ⟨hR1, fun z hz => inK_u32 (hR2 z hz), inK_u32 hpc, inK_u32 hvec, inK_u32 hback⟩
  obtain ⟨imm, himm⟩ : ∃ x, remI imm0 100000 = x := ⟨_, rfl⟩
  obtain ⟨v, hv⟩ : ∃ x, remI which 3 = x := ⟨_, rfl⟩
  have hi : -100000 < imm ∧ imm < 100000 := by rw [← himm, remI_eq]; exact tmod_rng _ _ (by decide)
  have hv5 : v = -2 ∨ v = -1 ∨ v = 0 ∨ v = 1 ∨ v = 2 := by have := tmod_rng which 3 (by decide); rw [← hv, remI_eq]; omega
  refine OkCall.of2 ?_
  refine into I9ok 6 ?_
  conv => cbv
  refine OkCall.by_spec awake_spec [0] (by decide) (by cbv) (by cbv) ?_
  conv => cbv
  rcases hv5 with rfl | rfl | rfl | rfl | rfl
  · refine Obs.int (.lit (-2)) hv.symm ?_
    conv => cbv
    refine Obs.on ?_
    conv => cbv
    refine Obs.int (.ex imm) himm.symm ?_
    conv => cbv
    obtain ⟨wy, hwy⟩ : ∃ x, 2425094144 + imm % 262144 = x := ⟨_, rfl⟩
    obtain ⟨wn, hwn⟩ : ∃ x, 2492203008 + imm % 262144 = x := ⟨_, rfl⟩
    obtain ⟨wj, hwj⟩ : ∃ x, 2554331136 + imm % 4194304 = x := ⟨_, rfl⟩
    refine OkCall.by_spec (enc_36 imm wy (by omega) hi.2 hwy.symm) [0] (by decide) (by cbv) (by cbv) ?_
    conv => cbv
    refine OkCall.by_spec (enc_37 imm wn (by omega) hi.2 hwn.symm) [0] (by decide) (by cbv) (by cbv) ?_
    conv => cbv
    refine OkCall.by_spec (enc_38 imm wj (by omega) hi.2 hwj.symm) [0] (by decide) (by cbv) (by cbv) ?_
    conv => cbv
    obtain ⟨py, hpy⟩ : ∃ x, (if brF 36 (rgL r0 2) (rgL r0 3) then w32 (pc + 4 * imm) else w32 (pc + 4)) = x := ⟨_, rfl⟩
    obtain ⟨pn, hpn⟩ : ∃ x, (if brF 37 (rgL r0 2) (rgL r0 3) then w32 (pc + 4 * imm) else w32 (pc + 4)) = x := ⟨_, rfl⟩
    obtain ⟨pj, hpj⟩ : ∃ x, w32 (pc + 4 * imm) = x := ⟨_, rfl⟩
    obtain ⟨rj, hrj⟩ : ∃ x, setR r0 1 (w32 (pc + 4)) = x := ⟨_, rfl⟩
    obtain ⟨by', hby⟩ : ∃ x, oneB' wy pc = x := ⟨_, rfl⟩
    obtain ⟨bn, hbn⟩ : ∃ x, oneB' wn pc = x := ⟨_, rfl⟩
    obtain ⟨bj, hbj⟩ : ∃ x, oneB' wj pc = x := ⟨_, rfl⟩
    have hsy := step_spec ⟨R, pc, vec, back, false, hdl⟩ (oneB wy) hreg (bdw0 (by simp) (by intro z hz; simp at hz; subst hz; exact ⟨by omega, by omega⟩) ⟨by decide, by decide⟩) ⟨⟨1, 1, 0, 0, 0, 0, false, 0, false, 0⟩, ⟨r0, py, vec, back, false, hdl⟩, by'⟩ (by rw [goes_br rfl (k := 36) (.inr (.inr (.inr (.inr (.inl rfl))))) (by omega) hi.2 (by simp; omega), ← hby, ← hpy, ← hr0]; rfl)
    have hsn := step_spec ⟨R, pc, vec, back, false, hdl⟩ (oneB wn) hreg (bdw0 (by simp) (by intro z hz; simp at hz; subst hz; exact ⟨by omega, by omega⟩) ⟨by decide, by decide⟩) ⟨⟨1, 1, 0, 0, 0, 0, false, 0, false, 0⟩, ⟨r0, pn, vec, back, false, hdl⟩, bn⟩ (by rw [goes_br rfl (k := 37) (.inr (.inr (.inr (.inr (.inr (rfl)))))) (by omega) hi.2 (by simp; omega), ← hbn, ← hpn, ← hr0]; rfl)
    have hsj := step_spec ⟨R, pc, vec, back, false, hdl⟩ (oneB wj) hreg (bdw0 (by simp) (by intro z hz; simp at hz; subst hz; exact ⟨by omega, by omega⟩) ⟨by decide, by decide⟩) ⟨⟨1, 1, 0, 0, 0, 0, false, 0, false, 0⟩, ⟨rj, pj, vec, back, false, hdl⟩, bj⟩ (by rw [goes_jal rfl (by omega) hi.2 (by omega), ← hbj, ← hpj, ← hrj, ← hr0]; rfl)
    unfold oneB at hsy hsn hsj
    refine OkCall.by_spec (calm_nil wy) [] (by decide) (by cbv) (by cbv) ?_
    conv => cbv
    refine OkCall.by_spec hsy [8, 12, 0] (by decide) (by cbv) (by cbv) ?_
    conv => cbv
    refine OkCall.by_spec (calm_nil wn) [] (by decide) (by cbv) (by cbv) ?_
    conv => cbv
    refine OkCall.by_spec hsn [9, 16, 0] (by decide) (by cbv) (by cbv) ?_
    conv => cbv
    refine OkCall.by_spec (calm_nil wj) [] (by decide) (by cbv) (by cbv) ?_
    conv => cbv
    refine OkCall.by_spec hsj [10, 20, 0] (by decide) (by cbv) (by cbv) ?_
    conv => cbv
    have hto : (addI .u32 pc (mulI .u32 4 (convI .u32 imm))) = pj := by rw [addI_eq, mulI_eq, convI_eq, ← hpj]; simp only [wrap_u32, w32]; omega
    have hon : (addI .u32 pc 4) = w32 (pc + 4) := pc4 pc
    have hop := br_opp (k := 36) (.inr (.inr rfl)) (rgL r0 2) (rgL r0 3)
    have hz : rgL rj 1 = w32 (pc + 4) := by
      have hl : r0.length = 16 := by rw [← hr0]; simp [hR1]
      rw [← hrj]; unfold rgL setR
      simp [hl]
    cases hb : brF 36 (rgL r0 2) (rgL r0 3) with
    | true =>
      rw [hb] at hpy hop
      rw [hop] at hpn
      simp at hpy hpn
      refine Br.yes (by show eqI py (addI .u32 pc (mulI .u32 4 (convI .u32 imm))) = true; rw [hto, eqI_eq, ← hpy, hpj]; simp) ?_
      conv => cbv
      refine Br.yes (by show eqI pn (addI .u32 pc 4) = true; rw [hon, eqI_eq, ← hpn]; simp) ?_
      conv => cbv
      refine Br.yes (by show eqI 1 1 = true; rw [eqI_eq]; rfl) ?_
      conv => cbv
      refine Br.yes (by show eqI 1 1 = true; rw [eqI_eq]; rfl) ?_
      conv => cbv
      refine Br.yes (by show eqI 1 1 = true; rw [eqI_eq]; rfl) ?_
      conv => cbv
      refine Br.yes (by show eqI pj (addI .u32 pc (mulI .u32 4 (convI .u32 imm))) = true; rw [hto, eqI_eq]; simp) ?_
      conv => cbv
      refine LeOut.two (LeOut.mk' [0, 1] (by decide) rfl (by decide) ?_ (by cbv))
      conv => cbv
      show true = eqI (gi rj 1) (addI .u32 pc 4)
      rw [hon, ← hz, eqI_eq, gi_eq]; simp [rgL]
    | false =>
      rw [hb] at hpy hop
      rw [hop] at hpn
      simp at hpy hpn
      refine Br.mk (fun hq => ?_) (fun hq => ?_)
      · replace hq : eqI py (addI .u32 pc (mulI .u32 4 (convI .u32 imm))) = true := hq
        rw [hto, eqI_eq, beq_iff_eq] at hq
        conv => cbv
        refine Br.yes (by show eqI pn (addI .u32 pc 4) = true; rw [hon, eqI_eq, ← hpn, hpj, ← hq, ← hpy]; simp) ?_
        conv => cbv
        refine Br.yes (by show eqI 1 1 = true; rw [eqI_eq]; rfl) ?_
        conv => cbv
        refine Br.yes (by show eqI 1 1 = true; rw [eqI_eq]; rfl) ?_
        conv => cbv
        refine Br.yes (by show eqI 1 1 = true; rw [eqI_eq]; rfl) ?_
        conv => cbv
        refine Br.yes (by show eqI pj (addI .u32 pc (mulI .u32 4 (convI .u32 imm))) = true; rw [hto, eqI_eq]; simp) ?_
        conv => cbv
        refine LeOut.two (LeOut.mk' [0, 1] (by decide) rfl (by decide) ?_ (by cbv))
        conv => cbv
        show true = eqI (gi rj 1) (addI .u32 pc 4)
        rw [hon, ← hz, eqI_eq, gi_eq]; simp [rgL]
      · conv => cbv
        refine Br.yes (by show eqI py (addI .u32 pc 4) = true; rw [hon, eqI_eq, ← hpy]; simp) ?_
        conv => cbv
        refine Br.yes (by show eqI 1 1 = true; rw [eqI_eq]; rfl) ?_
        conv => cbv
        refine Br.yes (by show eqI 1 1 = true; rw [eqI_eq]; rfl) ?_
        conv => cbv
        refine Br.yes (by show eqI 1 1 = true; rw [eqI_eq]; rfl) ?_
        conv => cbv
        refine Br.yes (by show eqI pn (addI .u32 pc (mulI .u32 4 (convI .u32 imm))) = true; rw [hto, eqI_eq, ← hpn, hpj]; simp) ?_
        conv => cbv
        refine Br.yes (by show eqI pj (addI .u32 pc (mulI .u32 4 (convI .u32 imm))) = true; rw [hto, eqI_eq]; simp) ?_
        conv => cbv
        refine LeOut.two (LeOut.mk' [0, 1] (by decide) rfl (by decide) ?_ (by cbv))
        conv => cbv
        show true = eqI (gi rj 1) (addI .u32 pc 4)
        rw [hon, ← hz, eqI_eq, gi_eq]; simp [rgL]
  · refine Obs.int (.lit (-1)) hv.symm ?_
    conv => cbv
    refine Obs.on ?_
    conv => cbv
    refine Obs.int (.ex imm) himm.symm ?_
    conv => cbv
    obtain ⟨wy, hwy⟩ : ∃ x, 2290876416 + imm % 262144 = x := ⟨_, rfl⟩
    obtain ⟨wn, hwn⟩ : ∃ x, 2357985280 + imm % 262144 = x := ⟨_, rfl⟩
    obtain ⟨wj, hwj⟩ : ∃ x, 2554331136 + imm % 4194304 = x := ⟨_, rfl⟩
    refine OkCall.by_spec (enc_34 imm wy (by omega) hi.2 hwy.symm) [0] (by decide) (by cbv) (by cbv) ?_
    conv => cbv
    refine OkCall.by_spec (enc_35 imm wn (by omega) hi.2 hwn.symm) [0] (by decide) (by cbv) (by cbv) ?_
    conv => cbv
    refine OkCall.by_spec (enc_38 imm wj (by omega) hi.2 hwj.symm) [0] (by decide) (by cbv) (by cbv) ?_
    conv => cbv
    obtain ⟨py, hpy⟩ : ∃ x, (if brF 34 (rgL r0 2) (rgL r0 3) then w32 (pc + 4 * imm) else w32 (pc + 4)) = x := ⟨_, rfl⟩
    obtain ⟨pn, hpn⟩ : ∃ x, (if brF 35 (rgL r0 2) (rgL r0 3) then w32 (pc + 4 * imm) else w32 (pc + 4)) = x := ⟨_, rfl⟩
    obtain ⟨pj, hpj⟩ : ∃ x, w32 (pc + 4 * imm) = x := ⟨_, rfl⟩
    obtain ⟨rj, hrj⟩ : ∃ x, setR r0 1 (w32 (pc + 4)) = x := ⟨_, rfl⟩
    obtain ⟨by', hby⟩ : ∃ x, oneB' wy pc = x := ⟨_, rfl⟩
    obtain ⟨bn, hbn⟩ : ∃ x, oneB' wn pc = x := ⟨_, rfl⟩
    obtain ⟨bj, hbj⟩ : ∃ x, oneB' wj pc = x := ⟨_, rfl⟩
    have hsy := step_spec ⟨R, pc, vec, back, false, hdl⟩ (oneB wy) hreg (bdw0 (by simp) (by intro z hz; simp at hz; subst hz; exact ⟨by omega, by omega⟩) ⟨by decide, by decide⟩) ⟨⟨1, 1, 0, 0, 0, 0, false, 0, false, 0⟩, ⟨r0, py, vec, back, false, hdl⟩, by'⟩ (by rw [goes_br rfl (k := 34) (.inr (.inr (.inl rfl))) (by omega) hi.2 (by simp; omega), ← hby, ← hpy, ← hr0]; rfl)
    have hsn := step_spec ⟨R, pc, vec, back, false, hdl⟩ (oneB wn) hreg (bdw0 (by simp) (by intro z hz; simp at hz; subst hz; exact ⟨by omega, by omega⟩) ⟨by decide, by decide⟩) ⟨⟨1, 1, 0, 0, 0, 0, false, 0, false, 0⟩, ⟨r0, pn, vec, back, false, hdl⟩, bn⟩ (by rw [goes_br rfl (k := 35) (.inr (.inr (.inr (.inl rfl)))) (by omega) hi.2 (by simp; omega), ← hbn, ← hpn, ← hr0]; rfl)
    have hsj := step_spec ⟨R, pc, vec, back, false, hdl⟩ (oneB wj) hreg (bdw0 (by simp) (by intro z hz; simp at hz; subst hz; exact ⟨by omega, by omega⟩) ⟨by decide, by decide⟩) ⟨⟨1, 1, 0, 0, 0, 0, false, 0, false, 0⟩, ⟨rj, pj, vec, back, false, hdl⟩, bj⟩ (by rw [goes_jal rfl (by omega) hi.2 (by omega), ← hbj, ← hpj, ← hrj, ← hr0]; rfl)
    unfold oneB at hsy hsn hsj
    refine OkCall.by_spec (calm_nil wy) [] (by decide) (by cbv) (by cbv) ?_
    conv => cbv
    refine OkCall.by_spec hsy [8, 12, 0] (by decide) (by cbv) (by cbv) ?_
    conv => cbv
    refine OkCall.by_spec (calm_nil wn) [] (by decide) (by cbv) (by cbv) ?_
    conv => cbv
    refine OkCall.by_spec hsn [9, 16, 0] (by decide) (by cbv) (by cbv) ?_
    conv => cbv
    refine OkCall.by_spec (calm_nil wj) [] (by decide) (by cbv) (by cbv) ?_
    conv => cbv
    refine OkCall.by_spec hsj [10, 20, 0] (by decide) (by cbv) (by cbv) ?_
    conv => cbv
    have hto : (addI .u32 pc (mulI .u32 4 (convI .u32 imm))) = pj := by rw [addI_eq, mulI_eq, convI_eq, ← hpj]; simp only [wrap_u32, w32]; omega
    have hon : (addI .u32 pc 4) = w32 (pc + 4) := pc4 pc
    have hop := br_opp (k := 34) (.inr (.inl rfl)) (rgL r0 2) (rgL r0 3)
    have hz : rgL rj 1 = w32 (pc + 4) := by
      have hl : r0.length = 16 := by rw [← hr0]; simp [hR1]
      rw [← hrj]; unfold rgL setR
      simp [hl]
    cases hb : brF 34 (rgL r0 2) (rgL r0 3) with
    | true =>
      rw [hb] at hpy hop
      rw [hop] at hpn
      simp at hpy hpn
      refine Br.yes (by show eqI py (addI .u32 pc (mulI .u32 4 (convI .u32 imm))) = true; rw [hto, eqI_eq, ← hpy, hpj]; simp) ?_
      conv => cbv
      refine Br.yes (by show eqI pn (addI .u32 pc 4) = true; rw [hon, eqI_eq, ← hpn]; simp) ?_
      conv => cbv
      refine Br.yes (by show eqI 1 1 = true; rw [eqI_eq]; rfl) ?_
      conv => cbv
      refine Br.yes (by show eqI 1 1 = true; rw [eqI_eq]; rfl) ?_
      conv => cbv
      refine Br.yes (by show eqI 1 1 = true; rw [eqI_eq]; rfl) ?_
      conv => cbv
      refine Br.yes (by show eqI pj (addI .u32 pc (mulI .u32 4 (convI .u32 imm))) = true; rw [hto, eqI_eq]; simp) ?_
      conv => cbv
      refine LeOut.two (LeOut.mk' [0, 1] (by decide) rfl (by decide) ?_ (by cbv))
      conv => cbv
      show true = eqI (gi rj 1) (addI .u32 pc 4)
      rw [hon, ← hz, eqI_eq, gi_eq]; simp [rgL]
    | false =>
      rw [hb] at hpy hop
      rw [hop] at hpn
      simp at hpy hpn
      refine Br.mk (fun hq => ?_) (fun hq => ?_)
      · replace hq : eqI py (addI .u32 pc (mulI .u32 4 (convI .u32 imm))) = true := hq
        rw [hto, eqI_eq, beq_iff_eq] at hq
        conv => cbv
        refine Br.yes (by show eqI pn (addI .u32 pc 4) = true; rw [hon, eqI_eq, ← hpn, hpj, ← hq, ← hpy]; simp) ?_
        conv => cbv
        refine Br.yes (by show eqI 1 1 = true; rw [eqI_eq]; rfl) ?_
        conv => cbv
        refine Br.yes (by show eqI 1 1 = true; rw [eqI_eq]; rfl) ?_
        conv => cbv
        refine Br.yes (by show eqI 1 1 = true; rw [eqI_eq]; rfl) ?_
        conv => cbv
        refine Br.yes (by show eqI pj (addI .u32 pc (mulI .u32 4 (convI .u32 imm))) = true; rw [hto, eqI_eq]; simp) ?_
        conv => cbv
        refine LeOut.two (LeOut.mk' [0, 1] (by decide) rfl (by decide) ?_ (by cbv))
        conv => cbv
        show true = eqI (gi rj 1) (addI .u32 pc 4)
        rw [hon, ← hz, eqI_eq, gi_eq]; simp [rgL]
      · conv => cbv
        refine Br.yes (by show eqI py (addI .u32 pc 4) = true; rw [hon, eqI_eq, ← hpy]; simp) ?_
        conv => cbv
        refine Br.yes (by show eqI 1 1 = true; rw [eqI_eq]; rfl) ?_
        conv => cbv
        refine Br.yes (by show eqI 1 1 = true; rw [eqI_eq]; rfl) ?_
        conv => cbv
        refine Br.yes (by show eqI 1 1 = true; rw [eqI_eq]; rfl) ?_
        conv => cbv
        refine Br.yes (by show eqI pn (addI .u32 pc (mulI .u32 4 (convI .u32 imm))) = true; rw [hto, eqI_eq, ← hpn, hpj]; simp) ?_
        conv => cbv
        refine Br.yes (by show eqI pj (addI .u32 pc (mulI .u32 4 (convI .u32 imm))) = true; rw [hto, eqI_eq]; simp) ?_
        conv => cbv
        refine LeOut.two (LeOut.mk' [0, 1] (by decide) rfl (by decide) ?_ (by cbv))
        conv => cbv
        show true = eqI (gi rj 1) (addI .u32 pc 4)
        rw [hon, ← hz, eqI_eq, gi_eq]; simp [rgL]
  · refine Obs.int (.lit (0)) hv.symm ?_
    conv => cbv
    refine Obs.int (.ex imm) himm.symm ?_
    conv => cbv
    obtain ⟨wy, hwy⟩ : ∃ x, 2156658688 + imm % 262144 = x := ⟨_, rfl⟩
    obtain ⟨wn, hwn⟩ : ∃ x, 2223767552 + imm % 262144 = x := ⟨_, rfl⟩
    obtain ⟨wj, hwj⟩ : ∃ x, 2554331136 + imm % 4194304 = x := ⟨_, rfl⟩
    refine OkCall.by_spec (enc_32 imm wy (by omega) hi.2 hwy.symm) [0] (by decide) (by cbv) (by cbv) ?_
    conv => cbv
    refine OkCall.by_spec (enc_33 imm wn (by omega) hi.2 hwn.symm) [0] (by decide) (by cbv) (by cbv) ?_
    conv => cbv
    refine OkCall.by_spec (enc_38 imm wj (by omega) hi.2 hwj.symm) [0] (by decide) (by cbv) (by cbv) ?_
    conv => cbv
    obtain ⟨py, hpy⟩ : ∃ x, (if brF 32 (rgL r0 2) (rgL r0 3) then w32 (pc + 4 * imm) else w32 (pc + 4)) = x := ⟨_, rfl⟩
    obtain ⟨pn, hpn⟩ : ∃ x, (if brF 33 (rgL r0 2) (rgL r0 3) then w32 (pc + 4 * imm) else w32 (pc + 4)) = x := ⟨_, rfl⟩
    obtain ⟨pj, hpj⟩ : ∃ x, w32 (pc + 4 * imm) = x := ⟨_, rfl⟩
    obtain ⟨rj, hrj⟩ : ∃ x, setR r0 1 (w32 (pc + 4)) = x := ⟨_, rfl⟩
    obtain ⟨by', hby⟩ : ∃ x, oneB' wy pc = x := ⟨_, rfl⟩
    obtain ⟨bn, hbn⟩ : ∃ x, oneB' wn pc = x := ⟨_, rfl⟩
    obtain ⟨bj, hbj⟩ : ∃ x, oneB' wj pc = x := ⟨_, rfl⟩
    have hsy := step_spec ⟨R, pc, vec, back, false, hdl⟩ (oneB wy) hreg (bdw0 (by simp) (by intro z hz; simp at hz; subst hz; exact ⟨by omega, by omega⟩) ⟨by decide, by decide⟩) ⟨⟨1, 1, 0, 0, 0, 0, false, 0, false, 0⟩, ⟨r0, py, vec, back, false, hdl⟩, by'⟩ (by rw [goes_br rfl (k := 32) (.inl rfl) (by omega) hi.2 (by simp; omega), ← hby, ← hpy, ← hr0]; rfl)
    have hsn := step_spec ⟨R, pc, vec, back, false, hdl⟩ (oneB wn) hreg (bdw0 (by simp) (by intro z hz; simp at hz; subst hz; exact ⟨by omega, by omega⟩) ⟨by decide, by decide⟩) ⟨⟨1, 1, 0, 0, 0, 0, false, 0, false, 0⟩, ⟨r0, pn, vec, back, false, hdl⟩, bn⟩ (by rw [goes_br rfl (k := 33) (.inr (.inl rfl)) (by omega) hi.2 (by simp; omega), ← hbn, ← hpn, ← hr0]; rfl)
    have hsj := step_spec ⟨R, pc, vec, back, false, hdl⟩ (oneB wj) hreg (bdw0 (by simp) (by intro z hz; simp at hz; subst hz; exact ⟨by omega, by omega⟩) ⟨by decide, by decide⟩) ⟨⟨1, 1, 0, 0, 0, 0, false, 0, false, 0⟩, ⟨rj, pj, vec, back, false, hdl⟩, bj⟩ (by rw [goes_jal rfl (by omega) hi.2 (by omega), ← hbj, ← hpj, ← hrj, ← hr0]; rfl)
    unfold oneB at hsy hsn hsj
    refine OkCall.by_spec (calm_nil wy) [] (by decide) (by cbv) (by cbv) ?_
    conv => cbv
    refine OkCall.by_spec hsy [8, 12, 0] (by decide) (by cbv) (by cbv) ?_
    conv => cbv
    refine OkCall.by_spec (calm_nil wn) [] (by decide) (by cbv) (by cbv) ?_
    conv => cbv
    refine OkCall.by_spec hsn [9, 16, 0] (by decide) (by cbv) (by cbv) ?_
    conv => cbv
    refine OkCall.by_spec (calm_nil wj) [] (by decide) (by cbv) (by cbv) ?_
    conv => cbv
    refine OkCall.by_spec hsj [10, 20, 0] (by decide) (by cbv) (by cbv) ?_
    conv => cbv
    have hto : (addI .u32 pc (mulI .u32 4 (convI .u32 imm))) = pj := by rw [addI_eq, mulI_eq, convI_eq, ← hpj]; simp only [wrap_u32, w32]; omega
    have hon : (addI .u32 pc 4) = w32 (pc + 4) := pc4 pc
    have hop := br_opp (k := 32) (.inl rfl) (rgL r0 2) (rgL r0 3)
    have hz : rgL rj 1 = w32 (pc + 4) := by
      have hl : r0.length = 16 := by rw [← hr0]; simp [hR1]
      rw [← hrj]; unfold rgL setR
      simp [hl]
    cases hb : brF 32 (rgL r0 2) (rgL r0 3) with
    | true =>
      rw [hb] at hpy hop
      rw [hop] at hpn
      simp at hpy hpn
      refine Br.yes (by show eqI py (addI .u32 pc (mulI .u32 4 (convI .u32 imm))) = true; rw [hto, eqI_eq, ← hpy, hpj]; simp) ?_
      conv => cbv
      refine Br.yes (by show eqI pn (addI .u32 pc 4) = true; rw [hon, eqI_eq, ← hpn]; simp) ?_
      conv => cbv
      refine Br.yes (by show eqI 1 1 = true; rw [eqI_eq]; rfl) ?_
      conv => cbv
      refine Br.yes (by show eqI 1 1 = true; rw [eqI_eq]; rfl) ?_
      conv => cbv
      refine Br.yes (by show eqI 1 1 = true; rw [eqI_eq]; rfl) ?_
      conv => cbv
      refine Br.yes (by show eqI pj (addI .u32 pc (mulI .u32 4 (convI .u32 imm))) = true; rw [hto, eqI_eq]; simp) ?_
      conv => cbv
      refine LeOut.two (LeOut.mk' [0, 1] (by decide) rfl (by decide) ?_ (by cbv))
      conv => cbv
      show true = eqI (gi rj 1) (addI .u32 pc 4)
      rw [hon, ← hz, eqI_eq, gi_eq]; simp [rgL]
    | false =>
      rw [hb] at hpy hop
      rw [hop] at hpn
      simp at hpy hpn
      refine Br.mk (fun hq => ?_) (fun hq => ?_)
      · replace hq : eqI py (addI .u32 pc (mulI .u32 4 (convI .u32 imm))) = true := hq
        rw [hto, eqI_eq, beq_iff_eq] at hq
        conv => cbv
        refine Br.yes (by show eqI pn (addI .u32 pc 4) = true; rw [hon, eqI_eq, ← hpn, hpj, ← hq, ← hpy]; simp) ?_
        conv => cbv
        refine Br.yes (by show eqI 1 1 = true; rw [eqI_eq]; rfl) ?_
        conv => cbv
        refine Br.yes (by show eqI 1 1 = true; rw [eqI_eq]; rfl) ?_
        conv => cbv
        refine Br.yes (by show eqI 1 1 = true; rw [eqI_eq]; rfl) ?_
        conv => cbv
        refine Br.yes (by show eqI pj (addI .u32 pc (mulI .u32 4 (convI .u32 imm))) = true; rw [hto, eqI_eq]; simp) ?_
        conv => cbv
        refine LeOut.two (LeOut.mk' [0, 1] (by decide) rfl (by decide) ?_ (by cbv))
        conv => cbv
        show true = eqI (gi rj 1) (addI .u32 pc 4)
        rw [hon, ← hz, eqI_eq, gi_eq]; simp [rgL]
      · conv => cbv
        refine Br.yes (by show eqI py (addI .u32 pc 4) = true; rw [hon, eqI_eq, ← hpy]; simp) ?_
        conv => cbv
        refine Br.yes (by show eqI 1 1 = true; rw [eqI_eq]; rfl) ?_
        conv => cbv
        refine Br.yes (by show eqI 1 1 = true; rw [eqI_eq]; rfl) ?_
        conv => cbv
        refine Br.yes (by show eqI 1 1 = true; rw [eqI_eq]; rfl) ?_
        conv => cbv
        refine Br.yes (by show eqI pn (addI .u32 pc (mulI .u32 4 (convI .u32 imm))) = true; rw [hto, eqI_eq, ← hpn, hpj]; simp) ?_
        conv => cbv
        refine Br.yes (by show eqI pj (addI .u32 pc (mulI .u32 4 (convI .u32 imm))) = true; rw [hto, eqI_eq]; simp) ?_
        conv => cbv
        refine LeOut.two (LeOut.mk' [0, 1] (by decide) rfl (by decide) ?_ (by cbv))
        conv => cbv
        show true = eqI (gi rj 1) (addI .u32 pc 4)
        rw [hon, ← hz, eqI_eq, gi_eq]; simp [rgL]
  · refine Obs.int (.lit (1)) hv.symm ?_
    conv => cbv
    refine Obs.int (.ex imm) himm.symm ?_
    conv => cbv
    obtain ⟨wy, hwy⟩ : ∃ x, 2290876416 + imm % 262144 = x := ⟨_, rfl⟩
    obtain ⟨wn, hwn⟩ : ∃ x, 2357985280 + imm % 262144 = x := ⟨_, rfl⟩
    obtain ⟨wj, hwj⟩ : ∃ x, 2554331136 + imm % 4194304 = x := ⟨_, rfl⟩
    refine OkCall.by_spec (enc_34 imm wy (by omega) hi.2 hwy.symm) [0] (by decide) (by cbv) (by cbv) ?_
    conv => cbv
    refine OkCall.by_spec (enc_35 imm wn (by omega) hi.2 hwn.symm) [0] (by decide) (by cbv) (by cbv) ?_
    conv => cbv
    refine OkCall.by_spec (enc_38 imm wj (by omega) hi.2 hwj.symm) [0] (by decide) (by cbv) (by cbv) ?_
    conv => cbv
    obtain ⟨py, hpy⟩ : ∃ x, (if brF 34 (rgL r0 2) (rgL r0 3) then w32 (pc + 4 * imm) else w32 (pc + 4)) = x := ⟨_, rfl⟩
    obtain ⟨pn, hpn⟩ : ∃ x, (if brF 35 (rgL r0 2) (rgL r0 3) then w32 (pc + 4 * imm) else w32 (pc + 4)) = x := ⟨_, rfl⟩
    obtain ⟨pj, hpj⟩ : ∃ x, w32 (pc + 4 * imm) = x := ⟨_, rfl⟩
    obtain ⟨rj, hrj⟩ : ∃ x, setR r0 1 (w32 (pc + 4)) = x := ⟨_, rfl⟩
    obtain ⟨by', hby⟩ : ∃ x, oneB' wy pc = x := ⟨_, rfl⟩
    obtain ⟨bn, hbn⟩ : ∃ x, oneB' wn pc = x := ⟨_, rfl⟩
    obtain ⟨bj, hbj⟩ : ∃ x, oneB' wj pc = x := ⟨_, rfl⟩
    have hsy := step_spec ⟨R, pc, vec, back, false, hdl⟩ (oneB wy) hreg (bdw0 (by simp) (by intro z hz; simp at hz; subst hz; exact ⟨by omega, by omega⟩) ⟨by decide, by decide⟩) ⟨⟨1, 1, 0, 0, 0, 0, false, 0, false, 0⟩, ⟨r0, py, vec, back, false, hdl⟩, by'⟩ (by rw [goes_br rfl (k := 34) (.inr (.inr (.inl rfl))) (by omega) hi.2 (by simp; omega), ← hby, ← hpy, ← hr0]; rfl)
    have hsn := step_spec ⟨R, pc, vec, back, false, hdl⟩ (oneB wn) hreg (bdw0 (by simp) (by intro z hz; simp at hz; subst hz; exact ⟨by omega, by omega⟩) ⟨by decide, by decide⟩) ⟨⟨1, 1, 0, 0, 0, 0, false, 0, false, 0⟩, ⟨r0, pn, vec, back, false, hdl⟩, bn⟩ (by rw [goes_br rfl (k := 35) (.inr (.inr (.inr (.inl rfl)))) (by omega) hi.2 (by simp; omega), ← hbn, ← hpn, ← hr0]; rfl)
    have hsj := step_spec ⟨R, pc, vec, back, false, hdl⟩ (oneB wj) hreg (bdw0 (by simp) (by intro z hz; simp at hz; subst hz; exact ⟨by omega, by omega⟩) ⟨by decide, by decide⟩) ⟨⟨1, 1, 0, 0, 0, 0, false, 0, false, 0⟩, ⟨rj, pj, vec, back, false, hdl⟩, bj⟩ (by rw [goes_jal rfl (by omega) hi.2 (by omega), ← hbj, ← hpj, ← hrj, ← hr0]; rfl)
    unfold oneB at hsy hsn hsj
    refine OkCall.by_spec (calm_nil wy) [] (by decide) (by cbv) (by cbv) ?_
    conv => cbv
    refine OkCall.by_spec hsy [8, 12, 0] (by decide) (by cbv) (by cbv) ?_
    conv => cbv
    refine OkCall.by_spec (calm_nil wn) [] (by decide) (by cbv) (by cbv) ?_
    conv => cbv
    refine OkCall.by_spec hsn [9, 16, 0] (by decide) (by cbv) (by cbv) ?_
    conv => cbv
    refine OkCall.by_spec (calm_nil wj) [] (by decide) (by cbv) (by cbv) ?_
    conv => cbv
    refine OkCall.by_spec hsj [10, 20, 0] (by decide) (by cbv) (by cbv) ?_
    conv => cbv
    have hto : (addI .u32 pc (mulI .u32 4 (convI .u32 imm))) = pj := by rw [addI_eq, mulI_eq, convI_eq, ← hpj]; simp only [wrap_u32, w32]; omega
    have hon : (addI .u32 pc 4) = w32 (pc + 4) := pc4 pc
    have hop := br_opp (k := 34) (.inr (.inl rfl)) (rgL r0 2) (rgL r0 3)
    have hz : rgL rj 1 = w32 (pc + 4) := by
      have hl : r0.length = 16 := by rw [← hr0]; simp [hR1]
      rw [← hrj]; unfold rgL setR
      simp [hl]
    cases hb : brF 34 (rgL r0 2) (rgL r0 3) with
    | true =>
      rw [hb] at hpy hop
      rw [hop] at hpn
      simp at hpy hpn
      refine Br.yes (by show eqI py (addI .u32 pc (mulI .u32 4 (convI .u32 imm))) = true; rw [hto, eqI_eq, ← hpy, hpj]; simp) ?_
      conv => cbv
      refine Br.yes (by show eqI pn (addI .u32 pc 4) = true; rw [hon, eqI_eq, ← hpn]; simp) ?_
      conv => cbv
      refine Br.yes (by show eqI 1 1 = true; rw [eqI_eq]; rfl) ?_
      conv => cbv
      refine Br.yes (by show eqI 1 1 = true; rw [eqI_eq]; rfl) ?_
      conv => cbv
      refine Br.yes (by show eqI 1 1 = true; rw [eqI_eq]; rfl) ?_
      conv => cbv
      refine Br.yes (by show eqI pj (addI .u32 pc (mulI .u32 4 (convI .u32 imm))) = true; rw [hto, eqI_eq]; simp) ?_
      conv => cbv
      refine LeOut.two (LeOut.mk' [0, 1] (by decide) rfl (by decide) ?_ (by cbv))
      conv => cbv
      show true = eqI (gi rj 1) (addI .u32 pc 4)
      rw [hon, ← hz, eqI_eq, gi_eq]; simp [rgL]
    | false =>
      rw [hb] at hpy hop
      rw [hop] at hpn
      simp at hpy hpn
      refine Br.mk (fun hq => ?_) (fun hq => ?_)
      · replace hq : eqI py (addI .u32 pc (mulI .u32 4 (convI .u32 imm))) = true := hq
        rw [hto, eqI_eq, beq_iff_eq] at hq
        conv => cbv
        refine Br.yes (by show eqI pn (addI .u32 pc 4) = true; rw [hon, eqI_eq, ← hpn, hpj, ← hq, ← hpy]; simp) ?_
        conv => cbv
        refine Br.yes (by show eqI 1 1 = true; rw [eqI_eq]; rfl) ?_
        conv => cbv
        refine Br.yes (by show eqI 1 1 = true; rw [eqI_eq]; rfl) ?_
        conv => cbv
        refine Br.yes (by show eqI 1 1 = true; rw [eqI_eq]; rfl) ?_
        conv => cbv
        refine Br.yes (by show eqI pj (addI .u32 pc (mulI .u32 4 (convI .u32 imm))) = true; rw [hto, eqI_eq]; simp) ?_
        conv => cbv
        refine LeOut.two (LeOut.mk' [0, 1] (by decide) rfl (by decide) ?_ (by cbv))
        conv => cbv
        show true = eqI (gi rj 1) (addI .u32 pc 4)
        rw [hon, ← hz, eqI_eq, gi_eq]; simp [rgL]
      · conv => cbv
        refine Br.yes (by show eqI py (addI .u32 pc 4) = true; rw [hon, eqI_eq, ← hpy]; simp) ?_
        conv => cbv
        refine Br.yes (by show eqI 1 1 = true; rw [eqI_eq]; rfl) ?_
        conv => cbv
        refine Br.yes (by show eqI 1 1 = true; rw [eqI_eq]; rfl) ?_
        conv => cbv
        refine Br.yes (by show eqI 1 1 = true; rw [eqI_eq]; rfl) ?_
        conv => cbv
        refine Br.yes (by show eqI pn (addI .u32 pc (mulI .u32 4 (convI .u32 imm))) = true; rw [hto, eqI_eq, ← hpn, hpj]; simp) ?_
        conv => cbv
        refine Br.yes (by show eqI pj (addI .u32 pc (mulI .u32 4 (convI .u32 imm))) = true; rw [hto, eqI_eq]; simp) ?_
        conv => cbv
        refine LeOut.two (LeOut.mk' [0, 1] (by decide) rfl (by decide) ?_ (by cbv))
        conv => cbv
        show true = eqI (gi rj 1) (addI .u32 pc 4)
        rw [hon, ← hz, eqI_eq, gi_eq]; simp [rgL]
  · refine Obs.int (.lit (2)) hv.symm ?_
    conv => cbv
    refine Obs.int (.ex imm) himm.symm ?_
    conv => cbv
    obtain ⟨wy, hwy⟩ : ∃ x, 2425094144 + imm % 262144 = x := ⟨_, rfl⟩
    obtain ⟨wn, hwn⟩ : ∃ x, 2492203008 + imm % 262144 = x := ⟨_, rfl⟩
    obtain ⟨wj, hwj⟩ : ∃ x, 2554331136 + imm % 4194304 = x := ⟨_, rfl⟩
    refine OkCall.by_spec (enc_36 imm wy (by omega) hi.2 hwy.symm) [0] (by decide) (by cbv) (by cbv) ?_
    conv => cbv
    refine OkCall.by_spec (enc_37 imm wn (by omega) hi.2 hwn.symm) [0] (by decide) (by cbv) (by cbv) ?_
    conv => cbv
    refine OkCall.by_spec (enc_38 imm wj (by omega) hi.2 hwj.symm) [0] (by decide) (by cbv) (by cbv) ?_
    conv => cbv
    obtain ⟨py, hpy⟩ : ∃ x, (if brF 36 (rgL r0 2) (rgL r0 3) then w32 (pc + 4 * imm) else w32 (pc + 4)) = x := ⟨_, rfl⟩
    obtain ⟨pn, hpn⟩ : ∃ x, (if brF 37 (rgL r0 2) (rgL r0 3) then w32 (pc + 4 * imm) else w32 (pc + 4)) = x := ⟨_, rfl⟩
    obtain ⟨pj, hpj⟩ : ∃ x, w32 (pc + 4 * imm) = x := ⟨_, rfl⟩
    obtain ⟨rj, hrj⟩ : ∃ x, setR r0 1 (w32 (pc + 4)) = x := ⟨_, rfl⟩
    obtain ⟨by', hby⟩ : ∃ x, oneB' wy pc = x := ⟨_, rfl⟩
    obtain ⟨bn, hbn⟩ : ∃ x, oneB' wn pc = x := ⟨_, rfl⟩
    obtain ⟨bj, hbj⟩ : ∃ x, oneB' wj pc = x := ⟨_, rfl⟩
    have hsy := step_spec ⟨R, pc, vec, back, false, hdl⟩ (oneB wy) hreg (bdw0 (by simp) (by intro z hz; simp at hz; subst hz; exact ⟨by omega, by omega⟩) ⟨by decide, by decide⟩) ⟨⟨1, 1, 0, 0, 0, 0, false, 0, false, 0⟩, ⟨r0, py, vec, back, false, hdl⟩, by'⟩ (by rw [goes_br rfl (k := 36) (.inr (.inr (.inr (.inr (.inl rfl))))) (by omega) hi.2 (by simp; omega), ← hby, ← hpy, ← hr0]; rfl)
    have hsn := step_spec ⟨R, pc, vec, back, false, hdl⟩ (oneB wn) hreg (bdw0 (by simp) (by intro z hz; simp at hz; subst hz; exact ⟨by omega, by omega⟩) ⟨by decide, by decide⟩) ⟨⟨1, 1, 0, 0, 0, 0, false, 0, false, 0⟩, ⟨r0, pn, vec, back, false, hdl⟩, bn⟩ (by rw [goes_br rfl (k := 37) (.inr (.inr (.inr (.inr (.inr (rfl)))))) (by omega) hi.2 (by simp; omega), ← hbn, ← hpn, ← hr0]; rfl)
    have hsj := step_spec ⟨R, pc, vec, back, false, hdl⟩ (oneB wj) hreg (bdw0 (by simp) (by intro z hz; simp at hz; subst hz; exact ⟨by omega, by omega⟩) ⟨by decide, by decide⟩) ⟨⟨1, 1, 0, 0, 0, 0, false, 0, false, 0⟩, ⟨rj, pj, vec, back, false, hdl⟩, bj⟩ (by rw [goes_jal rfl (by omega) hi.2 (by omega), ← hbj, ← hpj, ← hrj, ← hr0]; rfl)
    unfold oneB at hsy hsn hsj
    refine OkCall.by_spec (calm_nil wy) [] (by decide) (by cbv) (by cbv) ?_
    conv => cbv
    refine OkCall.by_spec hsy [8, 12, 0] (by decide) (by cbv) (by cbv) ?_
    conv => cbv
    refine OkCall.by_spec (calm_nil wn) [] (by decide) (by cbv) (by cbv) ?_
    conv => cbv
    refine OkCall.by_spec hsn [9, 16, 0] (by decide) (by cbv) (by cbv) ?_
    conv => cbv
    refine OkCall.by_spec (calm_nil wj) [] (by decide) (by cbv) (by cbv) ?_
    conv => cbv
    refine OkCall.by_spec hsj [10, 20, 0] (by decide) (by cbv) (by cbv) ?_
    conv => cbv
    have hto : (addI .u32 pc (mulI .u32 4 (convI .u32 imm))) = pj := by rw [addI_eq, mulI_eq, convI_eq, ← hpj]; simp only [wrap_u32, w32]; omega
    have hon : (addI .u32 pc 4) = w32 (pc + 4) := pc4 pc
    have hop := br_opp (k := 36) (.inr (.inr rfl)) (rgL r0 2) (rgL r0 3)
    have hz : rgL rj 1 = w32 (pc + 4) := by
      have hl : r0.length = 16 := by rw [← hr0]; simp [hR1]
      rw [← hrj]; unfold rgL setR
      simp [hl]
    cases hb : brF 36 (rgL r0 2) (rgL r0 3) with
    | true =>
      rw [hb] at hpy hop
      rw [hop] at hpn
      simp at hpy hpn
      refine Br.yes (by show eqI py (addI .u32 pc (mulI .u32 4 (convI .u32 imm))) = true; rw [hto, eqI_eq, ← hpy, hpj]; simp) ?_
      conv => cbv
      refine Br.yes (by show eqI pn (addI .u32 pc 4) = true; rw [hon, eqI_eq, ← hpn]; simp) ?_
      conv => cbv
      refine Br.yes (by show eqI 1 1 = true; rw [eqI_eq]; rfl) ?_
      conv => cbv
      refine Br.yes (by show eqI 1 1 = true; rw [eqI_eq]; rfl) ?_
      conv => cbv
      refine Br.yes (by show eqI 1 1 = true; rw [eqI_eq]; rfl) ?_
      conv => cbv
      refine Br.yes (by show eqI pj (addI .u32 pc (mulI .u32 4 (convI .u32 imm))) = true; rw [hto, eqI_eq]; simp) ?_
      conv => cbv
      refine LeOut.two (LeOut.mk' [0, 1] (by decide) rfl (by decide) ?_ (by cbv))
      conv => cbv
      show true = eqI (gi rj 1) (addI .u32 pc 4)
      rw [hon, ← hz, eqI_eq, gi_eq]; simp [rgL]
    | false =>
      rw [hb] at hpy hop
      rw [hop] at hpn
      simp at hpy hpn
      refine Br.mk (fun hq => ?_) (fun hq => ?_)
      · replace hq : eqI py (addI .u32 pc (mulI .u32 4 (convI .u32 imm))) = true := hq
        rw [hto, eqI_eq, beq_iff_eq] at hq
        conv => cbv
        refine Br.yes (by show eqI pn (addI .u32 pc 4) = true; rw [hon, eqI_eq, ← hpn, hpj, ← hq, ← hpy]; simp) ?_
        conv => cbv
        refine Br.yes (by show eqI 1 1 = true; rw [eqI_eq]; rfl) ?_
        conv => cbv
        refine Br.yes (by show eqI 1 1 = true; rw [eqI_eq]; rfl) ?_
        conv => cbv
        refine Br.yes (by show eqI 1 1 = true; rw [eqI_eq]; rfl) ?_
        conv => cbv
        refine Br.yes (by show eqI pj (addI .u32 pc (mulI .u32 4 (convI .u32 imm))) = true; rw [hto, eqI_eq]; simp) ?_
        conv => cbv
        refine LeOut.two (LeOut.mk' [0, 1] (by decide) rfl (by decide) ?_ (by cbv))
        conv => cbv
        show true = eqI (gi rj 1) (addI .u32 pc 4)
        rw [hon, ← hz, eqI_eq, gi_eq]; simp [rgL]
      · conv => cbv
        refine Br.yes (by show eqI py (addI .u32 pc 4) = true; rw [hon, eqI_eq, ← hpy]; simp) ?_
        conv => cbv
        refine Br.yes (by show eqI 1 1 = true; rw [eqI_eq]; rfl) ?_
        conv => cbv
        refine Br.yes (by show eqI 1 1 = true; rw [eqI_eq]; rfl) ?_
        conv => cbv
        refine Br.yes (by show eqI 1 1 = true; rw [eqI_eq]; rfl) ?_
        conv => cbv
        refine Br.yes (by show eqI pn (addI .u32 pc (mulI .u32 4 (convI .u32 imm))) = true; rw [hto, eqI_eq, ← hpn, hpj]; simp) ?_
        conv => cbv
        refine Br.yes (by show eqI pj (addI .u32 pc (mulI .u32 4 (convI .u32 imm))) = true; rw [hto, eqI_eq]; simp) ?_
        conv => cbv
        refine LeOut.two (LeOut.mk' [0, 1] (by decide) rfl (by decide) ?_ (by cbv))
        conv => cbv
        show true = eqI (gi rj 1) (addI .u32 pc 4)
        rw [hon, ← hz, eqI_eq, gi_eq]; simp [rgL]
end Go.Proofs.YtkljgpepogkgdaaDoor
