/-
  CoreBack: the walk.
-/
import Derived.Test.YtkljgpepogkgdaaDoorLC
import Derived.Test.YtkljgpepogkgdaaDoorP5
set_option linter.unusedVariables false
set_option linter.unusedSimpArgs false
namespace Go.Proofs.YtkljgpepogkgdaaDoor
open Go Go.Vex
set_option maxRecDepth 20000
set_option maxHeartbeats 4000000
noncomputable def I5 : FnT := [(5, fi Tryd.f5 ⟨[9, 1000013], 0⟩)]
theorem I5ok : FnsOk kit I5 := ⟨fo5 _, trivial⟩
theorem back_walk : opnArgs tab 9 [25, 3, 22] 1 (lawK 5 [.glob 0 layoutsL]) := by
  conv => cbv
  intro R hR1 hR2
  conv => cbv
  intro pc hpc
  conv => cbv
  intro vec hvec
  conv => cbv
  intro back hback
  conv => cbv
  intro on
  conv => cbv
  intro hdl
  conv => cbv
  intro line hline
  conv => cbv
  intro w hw
  conv => cbv
  intro A
  obtain ⟨r0, hr0⟩ : ∃ x, R.set 0 0 = x := ⟨_, rfl⟩
  have hreg : RegOk ⟨r0, pc, vec, back, true, false⟩ := ⟨by simp [← hr0, hR1], fun z hz => by
    rw [← hr0] at hz
    rcases List.mem_or_eq_of_mem_set hz with hz | hz
    · exact inK_u32 (hR2 z hz)
    · subst hz; exact U0, inK_u32 hpc, inK_u32 hvec, inK_u32 hback⟩
  obtain ⟨v, hv⟩ : ∃ x, remI line 32 = x := ⟨_, rfl⟩
  have hv5 : -32 < v ∧ v < 32 := by have := tmod_rng line 32 (by decide); rw [← hv, remI_eq]; omega
  obtain ⟨n, hn⟩ : ∃ n : Int, (if v < 0 then -v else v) = n := ⟨_, rfl⟩
  have hn0 : 0 ≤ n := by rw [← hn]; split <;> omega
  refine OkCall.of2 ?_
  refine into I5ok 6 ?_
  conv => cbv
  refine OkCall.by_spec awake_spec [0] (by decide) (by cbv) (by cbv) ?_
  conv => cbv
  refine Obs.int (.ex v) hv.symm ?_
  conv => cbv
  obtain ⟨ra, hra⟩ : ∃ x, (r0.set 0 0).set 14 (w32 n) = x := ⟨_, rfl⟩
  obtain ⟨rb, hrb⟩ : ∃ x, ra.set 0 0 = x := ⟨_, rfl⟩
  have hrega : RegOk ⟨ra, vec, vec, pc, true, true⟩ := ⟨by simp [← hra, ← hr0, hR1], fun z hz => by
    rw [← hra] at hz
    rcases List.mem_or_eq_of_mem_set hz with hz | hz
    · exact (zero0_ok hreg).all z hz
    · subst hz; exact w32_ok n, inK_u32 hvec, inK_u32 hvec, inK_u32 hpc⟩
  have hsb := step_spec ⟨ra, vec, vec, pc, true, true⟩ ⟨[3019898880, w], [], [], [], 0, 7, false, [105], [0], [0], [0], 0, 0, 0, 0⟩ hrega ⟨⟨by simp, by simp, by simp, by simp, by simp, by simp, by simp, by simp⟩, by simp, by simp, by simp, (by intro z hz; simp at hz; rcases hz with rfl | rfl; exact ⟨by decide, by decide⟩; exact inK_u32 hw), by simp⟩ _ (back_b ra pc vec w)
  simp only [hrb] at hsb
  have hfin : rb.set 14 ((R.set 0 0).getD 14 0) = R.set 0 0 := by
    have hl : R.length = 16 := hR1
    rw [← hrb, ← hra, ← hr0]
    refine List.ext_getElem (by simp) fun i h1 h2 => ?_
    simp only [List.getElem_set]
    by_cases e14 : 14 = i
    · subst e14; simp [List.getD_eq_getElem?_getD, hl]
    · rw [if_neg e14]
      by_cases e0 : 0 = i
      · subst e0; simp
      · simp [e14, e0]
  obtain ⟨o, ho⟩ : ∃ o, stepF ⟨r0, pc, vec, back, false, false⟩ ⟨[3019898880, w], [], [], [], 0, 7, false, [105, 102], [0, vec], [0, 0], [0, 0], 1, 0, 1, 1⟩ = o := ⟨_, rfl⟩
  have hsd := step_spec ⟨r0, pc, vec, back, false, false⟩ ⟨[3019898880, w], [], [], [], 0, 7, false, [105, 102], [0, vec], [0, 0], [0, 0], 1, 0, 1, 1⟩ ⟨hreg.len, hreg.all, hreg.pc, hreg.vec, hreg.back⟩ ⟨⟨by simp, by simp, by simp, by simp, by simp, by simp, by simp, by simp⟩, by simp, by simp, by simp, (by intro z hz; simp at hz; rcases hz with rfl | rfl; exact ⟨by decide, by decide⟩; exact inK_u32 hw), by simp⟩ o ho
  obtain ⟨hd1, hd2⟩ := noirq (s := ⟨r0, pc, vec, back, false, false⟩) (by simp [takes]) ⟨[3019898880, w], [], [], [], 0, 7, false, [105, 102], [0, vec], [0, 0], [0, 0], 1, 0, 1, 1⟩
  rw [ho] at hd1 hd2
  clear ho
  obtain ⟨⟨kind', cyc', num', flt', addr', lin', ld', val', rd', clk'⟩, ⟨r', pc', vec', back', on', hd'⟩, bd'⟩ := o
  simp only at hd1 hd2
  have h14 : gi ra 14 = convI .u32 n := by rw [conv_imm, gi_eq, ← hra, ← hr0]; simp [hR1]
  have hsa := step_spec ⟨r0, pc, vec, back, true, false⟩ ⟨[3019898880, w], [], [], [], 0, n, false, [], [], [], [], 0, 0, 0, 0⟩ hreg (bdw0 (by simp) (by intro z hz; simp at hz; rcases hz with rfl | rfl; exact ⟨by decide, by decide⟩; exact inK_u32 hw) ⟨by decide, by decide⟩) _ (back_a r0 pc vec back w n hn0)
  simp only [hra] at hsa
  refine Br.mk (fun hc => ?_) (fun hc => ?_)
  · simp only [leafs, decide_eq_true_eq] at hc
    have hnv : n = -v := by rw [← hn, if_pos hc]
    clear hn
    conv => cbv
    refine Obs.int (.ex n) (by show n = subI .i64 0 v; rw [subI_eq, IntWalk.i64_in _ (by omega)]; omega) ?_
    conv => cbv
    refine OkCall.ext (HImp.toInts (k := .u32) 5 2 [.lit 3019898880, .ex w] rfl rfl).ext ?_
    refine OkCall.ext (HExt.nilFill 6 1 0 1 nilU rfl rfl nilU_ok) ?_
    refine OkCall.ext (HExt.nilFill 6 2 0 1 nilI rfl rfl nilI_ok) ?_
    refine OkCall.ext (HExt.nilFill 6 3 0 1 nilI rfl rfl nilI_ok) ?_
    refine OkCall.ext (HExt.nilFill 6 7 0 4 emptyRows rfl rfl emptyRows_ok) ?_
    refine OkCall.ext (HImp.fold (S := boardSh ⟨[3019898880, w], [], [], [], 0, n, false, [], [], [], [], 0, 0, 0, 0⟩) 6 [5, 7, 8, 9, 10] (boardL ⟨[3019898880, w], [], [], [], 0, n, false, [], [], [], [], 0, 0, 0, 0⟩ 2 0 0 0 0 2 0 0 0 0) (by decide) ?_ ⟨2, 0, 0, 0, 0, 2, 0, 0, 0, 0, ⟨rfl, rfl, rfl, rfl, rfl, rfl, rfl, rfl, Nat.le_refl _⟩, rfl⟩).ext ?_
    · conv => cbv
      exact ⟨⟨fun j _ => by cbv, by simp only [leafs], trivial⟩, trivial⟩
    refine OkCall.by_spec hsa [4, 6, 0] (by decide) (by cbv) ?_ ?_
    · conv => cbv
      exact ⟨⟨by show r0 = setI R 0 0; rw [setI_eq, hr0], trivial⟩, trivial⟩
    conv => cbv
    refine Br.no (by simp only [leafs]; simp) ?_
    conv => cbv
    refine Br.no (by simp only [leafs]; simp) ?_
    conv => cbv
    refine Br.no (by simp only [leafs]; simp) ?_
    conv => cbv
    refine Br.no (by simp only [leafs]; simp) ?_
    conv => cbv
    refine Br.no (by simp only [leafs]; simp) ?_
    conv => cbv
    refine Br.no (by show notB (eqI (gi ra 14) (convI .u32 n)) = false; rw [h14, notB_eq, eqI_eq]; simp) ?_
    conv => cbv
    refine Br.no (by simp only [leafs]; simp) ?_
    conv => cbv
    refine Ok.unfold (S := boardSh ⟨[3019898880, w], [], [], [], 0, -1, false, [105], [0], [0], [0], 0, 0, 0, 0⟩) 6 rfl ?_
    rintro l ⟨mw, mv, mc, mf, ml, cw, cv, cc, cf, cl, ⟨rfl, rfl, rfl, rfl, rfl, _, _, _, hcl⟩, rfl⟩
    refine kcode (I := []) trivial 1 ⟨[1000015, 1000026], 0⟩ (by kernel_rfl) ?_
    conv => cbv
    refine OkCall.pre (HImp.fold (S := boardSh ⟨[3019898880, w], [], [], [], 0, 7, false, [105], [0], [0], [0], 0, 0, 0, 0⟩) 6 [13, 14, 15, 16, 17] (boardL ⟨[3019898880, w], [], [], [], 0, 7, false, [105], [0], [0], [0], 0, 0, 0, 0⟩ 2 0 0 0 1 cw cv cc cf cl) (by decide) ?_ ⟨2, 0, 0, 0, 1, cw, cv, cc, cf, cl, ⟨rfl, rfl, rfl, rfl, rfl, rfl, rfl, rfl, hcl⟩, rfl⟩) ?_
    · conv => cbv
      exact ⟨⟨fun j _ => by cbv, trivial⟩, trivial⟩
    refine OkCall.by_spec hsb [4, 6, 0] (by decide) (by cbv) (by cbv) ?_
    conv => cbv
    refine Ok.unfold (S := boardSh ⟨[3019898880, w], [], [], [], 0, 7, false, [105, 102], [0, vec], [0, 0], [0, 0], 1, 0, 1, 1⟩) 6 rfl ?_
    rintro l ⟨mw, mv, mc, mf, ml, cw2, cv2, cc2, cf2, cl2, ⟨rfl, rfl, rfl, rfl, rfl, _, _, _, hcl2⟩, rfl⟩
    refine kcode (I := []) trivial 1 ⟨[], 3⟩ (by kernel_rfl) ?_
    conv => cbv
    refine Br.yes (by simp only [leafs]; rfl) ?_
    conv => cbv
    repeat (first | refine And.intro (inR.mk (by decide) (by decide)) ?_ | refine And.intro (nLt.mk (by first | decide | (simp only [leafs]; decide))) ?_)
    refine Br.yes (by simp only [leafs]; rfl) ?_
    conv => cbv
    refine Br.yes (by simp only [leafs]; rfl) ?_
    conv => cbv
    repeat (first | refine And.intro (inR.mk (by decide) (by decide)) ?_ | refine And.intro (nLt.mk (by first | decide | (simp only [leafs]; decide))) ?_)
    refine Br.no (by simp only [leafs]; rfl) ?_
    conv => cbv
    refine Br.no (by simp only [leafs]; rfl) ?_
    conv => cbv
    refine Br.no (by simp only [leafs]; rfl) ?_
    conv => cbv
    refine Br.no (by
      simp only [leafs]
      rw [hfin]; simp) ?_
    conv => cbv
    refine Br.no (by simp only [leafs]; rfl) ?_
    conv => cbv
    refine OkCall.pre (HImp.fold (S := boardSh ⟨[3019898880, w], [], [], [], 0, 7, false, [105, 102], [0, vec], [0, 0], [0, 0], 1, 0, 1, 1⟩) 6 [20, 21, 22, 23, 24] (boardL ⟨[3019898880, w], [], [], [], 0, 7, false, [105, 102], [0, vec], [0, 0], [0, 0], 1, 0, 1, 1⟩ 2 0 0 0 2 cw2 cv2 cc2 cf2 cl2) (by decide) ?_ ⟨2, 0, 0, 0, 2, cw2, cv2, cc2, cf2, cl2, ⟨rfl, rfl, rfl, rfl, rfl, rfl, rfl, rfl, hcl2⟩, rfl⟩) ?_
    · conv => cbv
      exact ⟨⟨fun j _ => by cbv, trivial⟩, trivial⟩
    refine OkCall.by_spec hsd [2, 6, 0] (by decide) (by cbv) ?_ ?_
    · conv => cbv
      exact ⟨⟨by show r0 = setI R 0 0; rw [setI_eq, hr0], trivial⟩, trivial⟩
    conv => cbv
    refine Ok.unfold (S := boardSh bd') 6 rfl ?_
    rintro l ⟨mw, mv, mc, mf, ml, cw3, cv3, cc3, cf3, cl3, hb, rfl⟩
    obtain ⟨words, values, cycles', faults, time, line', odd, lk, la, ls, lv, nw, nv, nc, nf⟩ := bd'
    simp only at hd2
    refine kcode (I := []) trivial 1 ⟨[], 0⟩ (by kernel_rfl) ?_
    conv => cbv
    refine Br.yes (by simp only [leafs]; simpa using hd1) ?_
    conv => cbv
    refine LeOut.two (LeOut.mk' [0, 1] (by decide) rfl (by decide) ?_ (by cbv))
    conv => cbv
    simp only [leafs]
    simpa using hd2
  · simp only [leafs, decide_eq_false_iff_not] at hc
    obtain rfl : n = v := by rw [← hn, if_neg hc]
    clear hn
    conv => cbv
    refine OkCall.ext (HImp.toInts (k := .u32) 5 2 [.lit 3019898880, .ex w] rfl rfl).ext ?_
    refine OkCall.ext (HExt.nilFill 6 1 0 1 nilU rfl rfl nilU_ok) ?_
    refine OkCall.ext (HExt.nilFill 6 2 0 1 nilI rfl rfl nilI_ok) ?_
    refine OkCall.ext (HExt.nilFill 6 3 0 1 nilI rfl rfl nilI_ok) ?_
    refine OkCall.ext (HExt.nilFill 6 7 0 4 emptyRows rfl rfl emptyRows_ok) ?_
    refine OkCall.ext (HImp.fold (S := boardSh ⟨[3019898880, w], [], [], [], 0, n, false, [], [], [], [], 0, 0, 0, 0⟩) 6 [5, 7, 8, 9, 10] (boardL ⟨[3019898880, w], [], [], [], 0, n, false, [], [], [], [], 0, 0, 0, 0⟩ 2 0 0 0 0 2 0 0 0 0) (by decide) ?_ ⟨2, 0, 0, 0, 0, 2, 0, 0, 0, 0, ⟨rfl, rfl, rfl, rfl, rfl, rfl, rfl, rfl, Nat.le_refl _⟩, rfl⟩).ext ?_
    · conv => cbv
      exact ⟨⟨fun j _ => by cbv, by simp only [leafs], trivial⟩, trivial⟩
    refine OkCall.by_spec hsa [4, 6, 0] (by decide) (by cbv) ?_ ?_
    · conv => cbv
      exact ⟨⟨by show r0 = setI R 0 0; rw [setI_eq, hr0], trivial⟩, trivial⟩
    conv => cbv
    refine Br.no (by simp only [leafs]; simp) ?_
    conv => cbv
    refine Br.no (by simp only [leafs]; simp) ?_
    conv => cbv
    refine Br.no (by simp only [leafs]; simp) ?_
    conv => cbv
    refine Br.no (by simp only [leafs]; simp) ?_
    conv => cbv
    refine Br.no (by simp only [leafs]; simp) ?_
    conv => cbv
    refine Br.no (by show notB (eqI (gi ra 14) (convI .u32 n)) = false; rw [h14, notB_eq, eqI_eq]; simp) ?_
    conv => cbv
    refine Br.no (by simp only [leafs]; simp) ?_
    conv => cbv
    refine Ok.unfold (S := boardSh ⟨[3019898880, w], [], [], [], 0, -1, false, [105], [0], [0], [0], 0, 0, 0, 0⟩) 6 rfl ?_
    rintro l ⟨mw, mv, mc, mf, ml, cw, cv, cc, cf, cl, ⟨rfl, rfl, rfl, rfl, rfl, _, _, _, hcl⟩, rfl⟩
    refine kcode (I := []) trivial 1 ⟨[1000015, 1000026], 0⟩ (by kernel_rfl) ?_
    conv => cbv
    refine OkCall.pre (HImp.fold (S := boardSh ⟨[3019898880, w], [], [], [], 0, 7, false, [105], [0], [0], [0], 0, 0, 0, 0⟩) 6 [13, 14, 15, 16, 17] (boardL ⟨[3019898880, w], [], [], [], 0, 7, false, [105], [0], [0], [0], 0, 0, 0, 0⟩ 2 0 0 0 1 cw cv cc cf cl) (by decide) ?_ ⟨2, 0, 0, 0, 1, cw, cv, cc, cf, cl, ⟨rfl, rfl, rfl, rfl, rfl, rfl, rfl, rfl, hcl⟩, rfl⟩) ?_
    · conv => cbv
      exact ⟨⟨fun j _ => by cbv, trivial⟩, trivial⟩
    refine OkCall.by_spec hsb [4, 6, 0] (by decide) (by cbv) (by cbv) ?_
    conv => cbv
    refine Ok.unfold (S := boardSh ⟨[3019898880, w], [], [], [], 0, 7, false, [105, 102], [0, vec], [0, 0], [0, 0], 1, 0, 1, 1⟩) 6 rfl ?_
    rintro l ⟨mw, mv, mc, mf, ml, cw2, cv2, cc2, cf2, cl2, ⟨rfl, rfl, rfl, rfl, rfl, _, _, _, hcl2⟩, rfl⟩
    refine kcode (I := []) trivial 1 ⟨[], 3⟩ (by kernel_rfl) ?_
    conv => cbv
    refine Br.yes (by simp only [leafs]; rfl) ?_
    conv => cbv
    repeat (first | refine And.intro (inR.mk (by decide) (by decide)) ?_ | refine And.intro (nLt.mk (by first | decide | (simp only [leafs]; decide))) ?_)
    refine Br.yes (by simp only [leafs]; rfl) ?_
    conv => cbv
    refine Br.yes (by simp only [leafs]; rfl) ?_
    conv => cbv
    repeat (first | refine And.intro (inR.mk (by decide) (by decide)) ?_ | refine And.intro (nLt.mk (by first | decide | (simp only [leafs]; decide))) ?_)
    refine Br.no (by simp only [leafs]; rfl) ?_
    conv => cbv
    refine Br.no (by simp only [leafs]; rfl) ?_
    conv => cbv
    refine Br.no (by simp only [leafs]; rfl) ?_
    conv => cbv
    refine Br.no (by
      simp only [leafs]
      rw [hfin]; simp) ?_
    conv => cbv
    refine Br.no (by simp only [leafs]; rfl) ?_
    conv => cbv
    refine OkCall.pre (HImp.fold (S := boardSh ⟨[3019898880, w], [], [], [], 0, 7, false, [105, 102], [0, vec], [0, 0], [0, 0], 1, 0, 1, 1⟩) 6 [20, 21, 22, 23, 24] (boardL ⟨[3019898880, w], [], [], [], 0, 7, false, [105, 102], [0, vec], [0, 0], [0, 0], 1, 0, 1, 1⟩ 2 0 0 0 2 cw2 cv2 cc2 cf2 cl2) (by decide) ?_ ⟨2, 0, 0, 0, 2, cw2, cv2, cc2, cf2, cl2, ⟨rfl, rfl, rfl, rfl, rfl, rfl, rfl, rfl, hcl2⟩, rfl⟩) ?_
    · conv => cbv
      exact ⟨⟨fun j _ => by cbv, trivial⟩, trivial⟩
    refine OkCall.by_spec hsd [2, 6, 0] (by decide) (by cbv) ?_ ?_
    · conv => cbv
      exact ⟨⟨by show r0 = setI R 0 0; rw [setI_eq, hr0], trivial⟩, trivial⟩
    conv => cbv
    refine Ok.unfold (S := boardSh bd') 6 rfl ?_
    rintro l ⟨mw, mv, mc, mf, ml, cw3, cv3, cc3, cf3, cl3, hb, rfl⟩
    obtain ⟨words, values, cycles', faults, time, line', odd, lk, la, ls, lv, nw, nv, nc, nf⟩ := bd'
    simp only at hd2
    refine kcode (I := []) trivial 1 ⟨[], 0⟩ (by kernel_rfl) ?_
    conv => cbv
    refine Br.yes (by simp only [leafs]; simpa using hd1) ?_
    conv => cbv
    refine LeOut.two (LeOut.mk' [0, 1] (by decide) rfl (by decide) ?_ (by cbv))
    conv => cbv
    simp only [leafs]
    simpa using hd2
end Go.Proofs.YtkljgpepogkgdaaDoor
