/-
  CoreWords: the walk.
-/
import Derived.Test.YtkljgpepogkgdaaDoorTM
import Derived.Test.YtkljgpepogkgdaaDoorGL
set_option linter.unusedVariables false
set_option linter.unusedSimpArgs false
namespace Go.Proofs.YtkljgpepogkgdaaDoor
open Go Go.Vex
set_option maxRecDepth 20000
set_option maxHeartbeats 4000000
noncomputable def I7 : FnT := [(7, fi Tryd.f7 ⟨[1000013], 0⟩)]
noncomputable def I7t : FnT := [(11, fi Tryd.f11 ⟨[], 0⟩), (17, fi Tryd.f17 ⟨[], 0⟩)]
theorem I7tok : FnsOk kit I7t := ⟨fo11 _, fo17 _, trivial⟩
theorem I7ok : FnsOk kit I7 := ⟨fo7 _, trivial⟩
theorem exec_lk (k : Nat) (d a b imm : Int) (s : RegS) (bd : BoardS) (cyc : Int) : (execF k d a b imm s bd cyc).bd.lk.length ≤ bd.lk.length + 1 := by
  unfold execF
  simp only
  split
  · simp
  split
  · simp
  split
  · simp
  split
  · split <;> simp only [loadS, costS, logS] <;> split <;> simp
  split
  · split <;> simp [storeS, costS, logS]
  split
  · simp
  split <;> (try split) <;> simp [clockS, logS]
theorem fetch_lk (bd : BoardS) (pc : Int) : (fetchS bd pc).lk.length = bd.lk.length + 1 := by
  simp only [fetchS, costS, logS]; split <;> simp
theorem irq_lk (bd : BoardS) : (irqS bd).lk.length = bd.lk.length + 1 := by
  simp only [irqS, logS]; split <;> simp
theorem tail_lk (s : RegS) (bd : BoardS) : (tailF s bd).bd.lk.length ≤ bd.lk.length + 2 := by
  unfold tailF
  simp only
  split
  · simp only [fetch_lk]; omega
  split
  · simp only [fetch_lk]; omega
  · have := exec_lk; refine Nat.le_trans (this _ _ _ _ _ _ _ _) ?_; rw [fetch_lk]; omega
theorem step_lk (s : RegS) (bd : BoardS) : (stepF s bd).bd.lk.length ≤ bd.lk.length + 3 := by
  unfold stepF
  split
  · split
    · simp only [irq_lk]; omega
    · have := tail_lk (zero0 s) (irqS bd); rw [irq_lk] at this; omega
  · have := tail_lk (zero0 s) bd; omega
theorem words_walk : opnArgs tab 9 [25, 26, 22, 22] 1 (lawK 7 [.glob 0 layoutsL]) := by
  conv => cbv
  intro R hR1 hR2
  conv => cbv
  intro pc hpc
  conv => cbv
  intro vec hvec
  conv => cbv
  intro back hback
  conv => cbv
  intro on
  conv => cbv
  intro hdl
  conv => cbv
  intro m cap zs hzl hmc hcm hreach hzs
  conv => cbv
  intro v hv
  conv => cbv
  intro w hw
  conv => cbv
  intro A
  refine OkCall.of2 ?_
  refine into I7ok 6 ?_
  conv => cbv
  refine byInv I7ok 6 ⟨[1000013], 0⟩ (fun z : Int => ⟨[(9, .i .i64 (.ex z)), (4, .p 3 (.at 0)), (1, .slc 1 0 1 (.lit 0) (.ex m) (.ex cap)), (2, .i .u32 (.ex v)), (3, .i .u32 (.ex w))],
    [.glob 0 layoutsL, .ro [.ints .u32 (.ex m) zs], .abs A, .cells 25 (regL ⟨R, pc, vec, back, on, hdl⟩)]⟩)
    (fun z => m - z.toNat) (fun z => 0 ≤ z ∧ z.toNat ≤ m) false 0 (by kernel_rfl) ⟨by omega, by omega⟩
    (LeSt.mk' (List.range 4) (by decide) rfl id (by cbv) (by cbv)) ?_
  rintro z ⟨hz0, hz1⟩
  conv => cbv
  refine Br.mk (fun hd => ?_) (fun hd => ?_)
  · simp only [leafs, decide_eq_true_eq] at hd
    conv => cbv
    refine Br.mk (fun hl => ?_) (fun hl => ?_)
    · conv => cbv
      refine ⟨inR.mk hz0 (by omega), nLt.mk (by simp only [leafs]; omega), ?_⟩
      obtain ⟨wd, hwd⟩ : ∃ x, gi zs (toN z) = x := ⟨_, rfl⟩
      obtain ⟨t, ht⟩ : ∃ x, mulI .u64 (convI .u64 w) (convI .u64 v) = x := ⟨_, rfl⟩
      refine OkCall.ext (HImp.toInts (k := .u32) 6 1 [.ex (gi zs (toN z))] rfl rfl).ext ?_
      refine OkCall.ext (HImp.toInts (k := .u32) 7 2 [.ex v, .ex w] rfl rfl).ext ?_
      refine OkCall.ext (HExt.nilFill 8 2 0 1 nilI rfl rfl nilI_ok) ?_
      refine OkCall.ext (HExt.nilFill 8 3 0 1 nilI rfl rfl nilI_ok) ?_
      refine OkCall.ext (HExt.nilFill 8 7 0 4 emptyRows rfl rfl emptyRows_ok) ?_
      refine OkCall.ext (HImp.fold (S := boardSh ⟨[wd], [v, w], [], [], t, -1, false, [], [], [], [], 0, 0, 0, 0⟩) 8 [6, 7, 9, 10, 11] (boardL ⟨[wd], [v, w], [], [], t, -1, false, [], [], [], [], 0, 0, 0, 0⟩ 1 2 0 0 0 1 2 0 0 0) (by decide) ?_ ⟨1, 2, 0, 0, 0, 1, 2, 0, 0, 0, ⟨rfl, rfl, rfl, rfl, rfl, rfl, rfl, rfl, Nat.le_refl _⟩, rfl⟩).ext ?_
      · conv => cbv
        exact ⟨⟨ht.symm, trivial⟩, ⟨by rw [← hwd]; rfl, trivial⟩, ⟨fun j _ => by cbv, by simp only [leafs], trivial⟩, trivial⟩
      refine OkCall.by_spec (copied_spec ⟨[wd], [v, w], [], [], t, -1, false, [], [], [], [], 0, 0, 0, 0⟩ ⟨by simp, by simp, by simp, by simp, by simp⟩) [8] (by decide) (by cbv) (by cbv) ?_
      conv => cbv
      obtain ⟨o, ho⟩ : ∃ o, stepF ⟨R, pc, vec, back, on, hdl⟩ ⟨[wd], [v, w], [], [], t, -1, false, [], [], [], [], 0, 0, 0, 0⟩ = o := ⟨_, rfl⟩
      have hreg : RegOk ⟨R, pc, vec, back, on, hdl⟩ := ⟨hR1, fun z hz => inK_u32 (hR2 z hz), inK_u32 hpc, inK_u32 hvec, inK_u32 hback⟩
      have hzU : U32 wd := by
        rw [← hwd, gi_eq, toN_eq, List.getD_eq_getElem?_getD]
        have hlt : z.toNat < zs.length := by omega
        rw [List.getElem?_eq_getElem hlt]
        exact inK_u32 (hzs _ (List.getElem_mem hlt))
      have htU : 0 ≤ t ∧ t < 18446744073709551616 := by rw [← ht, mulI_eq, wrap_u64]; omega
      have hbw : BdOkW ⟨[wd], [v, w], [], [], t, -1, false, [], [], [], [], 0, 0, 0, 0⟩ :=
        ⟨⟨by simp, by simp, by simp, by simp, by simp, by simp, by simp, by simp⟩, by simp, htU,
          by intro z hz; simp at hz; rcases hz with rfl | rfl; exact inK_u32 hv; exact inK_u32 hw, by intro z hz; simp at hz; subst hz; exact hzU, by simp⟩
      have h1 := step_spec _ _ hreg hbw o ho
      have h2 := rstep_spec _ _ hreg hbw o ho
      have hlk : o.bd.lk.length ≤ 1000000 := by have := step_lk ⟨R, pc, vec, back, on, hdl⟩ ⟨[wd], [v, w], [], [], t, -1, false, [], [], [], [], 0, 0, 0, 0⟩; rw [ho] at this; simp at this; omega
      have h3 := same_spec o.bd o.bd hlk hlk (r := true) (by simp)
      obtain ⟨⟨kind', cyc', num', flt', addr', line', loaded', value', read', clk'⟩, ⟨r', pc', vec', back', on', hdl'⟩, bd'⟩ := o
      refine OkCall.by_spec h1 [4, 8, 0] (by decide) (by cbv) (by cbv) ?_
      conv => cbv
      refine OkCall.by_spec h2 [5, 13] (by decide) (by cbv) (by cbv) ?_
      conv => cbv
      refine OkCall.by_spec h3 [8, 13] (by decide) (by cbv) (by cbv) ?_
      conv => cbv
      refine Br.no (by simp only [leafs]; simp) ?_
      conv => cbv
      refine Br.no (by simp only [leafs]; simp) ?_
      conv => cbv
      refine Br.no (by simp only [leafs]; rfl) ?_
      conv => cbv
      obtain ⟨z1, hz'⟩ : ∃ x, z + 1 = x := ⟨_, rfl⟩
      refine ⟨z1, ⟨⟨by omega, by omega⟩, by omega⟩, _, (HImp.refl _).ext, LeSt.mk' (List.range 4) (by decide) rfl id ?_ ?_⟩
      · conv => cbv
        simp only [leafs]
        rw [IntWalk.i64_in _ (by simp only [leafs, decide_eq_true_eq] at hl; omega)]
        exact ⟨hz'.symm, trivial⟩
      · conv => cbv
        trivial
    · conv => cbv
      refine kcode I7tok 6 ⟨[], 0⟩ (by kernel_rfl) ?_
      conv => cbv
      refine LeOut2.imp (HImp.refl _) ?_
      exact (LeOut.mk' [0, 1, 2] (by decide) rfl (by decide) (by cbv) (by cbv)).two
  · conv => cbv
    refine kcode I7tok 6 ⟨[], 0⟩ (by kernel_rfl) ?_
    conv => cbv
    exact (LeOut.mk' [0, 1, 2] (by decide) rfl (by decide) (by cbv) (by cbv)).two
end Go.Proofs.YtkljgpepogkgdaaDoor
