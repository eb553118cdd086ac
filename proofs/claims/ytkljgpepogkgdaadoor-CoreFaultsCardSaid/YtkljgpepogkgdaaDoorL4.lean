/-
  CoreFaults: the walk.
-/
import Derived.Test.YtkljgpepogkgdaaDoorGL
import Derived.Test.YtkljgpepogkgdaaDoorP4
namespace Go.Proofs.YtkljgpepogkgdaaDoor
open Go Go.Vex
set_option maxRecDepth 20000
set_option maxHeartbeats 4000000
theorem cyc_1 (c : Int) : i64 (c + 1) = IntKind.i64.wrap (IntKind.i64.wrap (1 * c) + 1) := by
  unfold i64; simp only [wrap_i64']; omega
theorem cyc_2 (c : Int) : i64 (i64 (c + 1) + c) = IntKind.i64.wrap (IntKind.i64.wrap (2 * c) + 1) := by
  unfold i64; simp only [wrap_i64']; omega
noncomputable def I4 : FnT := [(4, fi Tryd.f4 ⟨[1000010], 0⟩)]
theorem I4ok : FnsOk kit I4 := ⟨fo4 _, trivial⟩
theorem faults_walk : opnArgs tab 9 [22, 25, 38, 38, 3] 1 (lawK 4 [.glob 0 layoutsL]) := by
  conv => cbv
  intro w hw
  conv => cbv
  intro R hR1 hR2
  conv => cbv
  intro pc hpc
  conv => cbv
  intro vec hvec
  conv => cbv
  intro back hback
  conv => cbv
  intro on
  conv => cbv
  intro hdl
  conv => cbv
  intro fetch hfetch
  conv => cbv
  intro data hdata
  conv => cbv
  intro cycles hcyc
  conv => cbv
  intro A
  refine OkCall.of2 ?_
  refine into I4ok 6 ?_
  conv => cbv
  refine OkCall.by_spec awake_spec [0] (by decide) (by cbv) (by cbv) ?_
  conv => cbv
  refine OkCall.ext (HImp.toInts (k := .u32) 5 1 [.ex w] rfl rfl).ext ?_
  refine OkCall.ext (HImp.toInts (k := .i64) 6 2 [.ex fetch, .ex data] rfl rfl).ext ?_
  refine OkCall.ext (HImp.toInts (k := .i64) 7 1 [.ex cycles] rfl rfl).ext ?_
  refine OkCall.ext (HExt.nilFill 8 1 0 1 nilU rfl rfl nilU_ok) ?_
  refine OkCall.ext (HExt.nilFill 8 7 0 4 emptyRows rfl rfl emptyRows_ok) ?_
  refine OkCall.ext (HImp.fold (S := boardSh ⟨[w], [], [cycles], [fetch, data], 0, -1, false, [], [], [], [], 0, 0, 0, 0⟩) 8 [5, 9, 7, 6, 10] (boardL ⟨[w], [], [cycles], [fetch, data], 0, -1, false, [], [], [], [], 0, 0, 0, 0⟩ 1 0 1 2 0 1 0 1 2 0) (by decide) ?_ ⟨1, 0, 1, 2, 0, 1, 0, 1, 2, 0, ⟨rfl, rfl, rfl, rfl, rfl, rfl, rfl, rfl, Nat.le_refl _⟩, rfl⟩).ext ?_
  · conv => cbv
    exact ⟨⟨fun j _ => by cbv, by simp only [leafs], trivial⟩, trivial⟩
  refine OkCall.by_spec (copied_spec ⟨[w], [], [cycles], [fetch, data], 0, -1, false, [], [], [], [], 0, 0, 0, 0⟩ ⟨by simp, by simp, by simp, by simp, by simp⟩) [8] (by decide) (by cbv) (by cbv) ?_
  obtain ⟨r0, hr0⟩ : ∃ x, R.set 0 0 = x := ⟨_, rfl⟩
  have hreg : RegOk ⟨r0, pc, vec, back, false, hdl⟩ := ⟨by simp [← hr0, hR1], fun z hz => by
    rw [← hr0] at hz
    rcases List.mem_or_eq_of_mem_set hz with hz | hz
    · exact inK_u32 (hR2 z hz)
    · subst hz; exact U0, inK_u32 hpc, inK_u32 hvec, inK_u32 hback⟩
  obtain ⟨o, ho⟩ : ∃ o, stepF ⟨r0, pc, vec, back, false, hdl⟩ (bd4 w fetch data cycles) = o := ⟨_, rfl⟩
  have hsp := step_spec _ _ hreg ⟨⟨by simp [bd4], by simp [bd4], by simp [bd4], by simp [bd4], by simp [bd4], by simp [bd4], by simp [bd4], by simp [bd4]⟩, by simp [bd4], by simp [bd4], by simp [bd4], by simp [bd4]; exact inK_u32 hw, by simp [bd4]⟩ o ho
  have hp := faults_pure w fetch data cycles ⟨r0, pc, vec, back, false, hdl⟩ rfl (by simp [← hr0]) o ho
  obtain ⟨⟨kind', cyc', num', flt', addr', line', ld', val', rd', clk'⟩, ⟨r', pc', vec', back', on', hd'⟩, bd'⟩ := o
  clear ho
  unfold bd4 at hsp
  conv => cbv
  refine OkCall.by_spec hsp [4, 12, 0] (by decide) (by cbv) ?_ ?_
  · conv => cbv
    exact ⟨⟨by show r0 = setI R 0 0; rw [setI_eq, hr0], trivial⟩, trivial⟩
  conv => cbv
  rcases hp with ⟨h1, h2, h3⟩ | ⟨h1, h2⟩
  · simp only at h1 h3
    refine Br.yes (by simp only [leafs]; simpa using h1) ?_
    conv => cbv
    refine Br.yes (by simp only [leafs]; simpa using h2) ?_
    conv => cbv
    refine LeOut.two (LeOut.mk' [0, 1] (by decide) rfl (by decide) ?_ (by cbv))
    conv => cbv
    simp only [leafs]
    simpa using h3
  · simp only at h1
    obtain ⟨g1, g2, g3, g4, g5⟩ := h2
    simp only [RegS.mk.injEq] at g1 g2 g3 g4 g5
    obtain ⟨rfl, rfl, rfl, rfl, rfl, rfl⟩ := g1
    subst g2; subst g3
    refine Br.no (by simp only [leafs]; simpa using h1) ?_
    conv => cbv
    refine Ok.unfold (S := boardSh bd') 12 rfl ?_
    rintro l ⟨mw, mv, mc, mf, ml, cw, cv, cc, cf, cl, hb, rfl⟩
    obtain ⟨words, values, cycles', faults, time, line, odd, lk, la, ls, lv, nw, nv, nc, nf⟩ := bd'
    obtain ⟨hb1, hb2, hb3, hb4, hb5, hb6, hb7, hb8, hb9⟩ := hb
    simp only at *
    refine kcode (I := []) trivial 1 ⟨[], 0⟩ (by kernel_rfl) ?_
    conv => cbv
    rcases g5 with ⟨f1, f2, f3, f4, f5, f6⟩ | ⟨f1, f2, f3, f4, f5, f6⟩ | ⟨f1, f2, f3, f4, f5, f6⟩
    · obtain rfl : ml = 1 := by omega
      refine Br.no (by simp only [leafs]; simp [hr0]) ?_
      conv => cbv
      refine Br.no (by simp only [leafs]; rw [f6, cyc_1 cycles]; simp) ?_
      conv => cbv
      refine Br.no rfl ?_
      conv => cbv
      refine Br.no (by simp only [leafs]; simp) ?_
      conv => cbv
      refine Br.no (by simp only [leafs]; simpa using g4) ?_
      conv => cbv
      refine Br.yes (by simp only [leafs]; simpa using f1) ?_
      conv => cbv
      refine Br.yes (by simp only [leafs]; simpa using f2) ?_
      conv => cbv
      refine Br.yes (by simp only [leafs]; simpa using f3) ?_
      conv => cbv
      refine LeOut.two (LeOut.mk' [0, 1] (by decide) rfl (by decide) ?_ (by cbv))
      conv => cbv
      simp only [leafs]
      simp
    · obtain rfl : ml = 2 := by omega
      refine Br.no (by simp only [leafs]; simp [hr0]) ?_
      conv => cbv
      refine Br.no (by simp only [leafs]; rw [f6, cyc_2 cycles]; simp) ?_
      conv => cbv
      refine Br.no rfl ?_
      conv => cbv
      refine Br.no (by simp only [leafs]; simp) ?_
      conv => cbv
      refine Br.no (by simp only [leafs]; simpa using g4) ?_
      conv => cbv
      refine Br.no (by simp only [leafs]; simpa using f1) ?_
      conv => cbv
      refine Br.yes (by simp only [leafs]; simp) ?_
      conv => cbv
      refine Br.yes (by simp only [leafs]; simpa using f4) ?_
      conv => cbv
      repeat (first | refine And.intro (inR.mk (by decide) (by decide)) ?_ | refine And.intro (nLt.mk (by first | decide | (simp only [leafs]; decide))) ?_)
      conv => cbv
      refine LeOut.two (LeOut.mk' [0, 1] (by decide) rfl (by decide) ?_ (by cbv))
      conv => cbv
      simp only [leafs]
      simpa using f5
    · obtain rfl : ml = 1 := by omega
      refine Br.no (by simp only [leafs]; simp [hr0]) ?_
      conv => cbv
      refine Br.no (by simp only [leafs]; rw [f6, cyc_1 cycles]; simp) ?_
      conv => cbv
      refine Br.no rfl ?_
      conv => cbv
      refine Br.no (by simp only [leafs]; simp) ?_
      conv => cbv
      refine Br.no (by simp only [leafs]; simpa using g4) ?_
      conv => cbv
      refine Br.no (by simp only [leafs]; simpa using f1) ?_
      conv => cbv
      refine Br.no (by simp only [leafs]; simp) ?_
      conv => cbv
      refine Br.yes (by simp only [leafs]; simpa using f4) ?_
      conv => cbv
      refine LeOut.two (LeOut.mk' [0, 1] (by decide) rfl (by decide) ?_ (by cbv))
      conv => cbv
      simp only [leafs]
      simpa using f5
end Go.Proofs.YtkljgpepogkgdaaDoor
