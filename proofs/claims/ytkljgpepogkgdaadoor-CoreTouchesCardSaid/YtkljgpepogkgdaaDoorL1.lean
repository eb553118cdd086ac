/-
  Boards made of literals.
-/
import Derived.Test.YtkljgpepogkgdaaDoorS5
import Derived.Test.YtkljgpepogkgdaaDoorV22
set_option linter.unusedVariables false
set_option linter.unusedSimpArgs false
namespace Go.Proofs.YtkljgpepogkgdaaDoor
open Go Go.Vex
noncomputable def emptyRows : Blk := .cells 48 [.rows 4 (.ex 0) (logF [] [] [] []), .junk 4 (.ex 0)]
noncomputable def nilU : Blk := .ro [.ints .u32 (.ex 0) []]
noncomputable def nilI : Blk := .ro [.ints .i64 (.ex 0) []]
theorem nilU_ok : ∀ ρ w, BSat ρ none ⟨[], []⟩ w nilU := nil_ro .u32
theorem nilI_ok : ∀ ρ w, BSat ρ none ⟨[], []⟩ w nilI := nil_ro .i64
theorem emptyRows_ok : ∀ ρ w, BSat ρ none ⟨[], []⟩ w emptyRows := nil_rows 48 4 _
end Go.Proofs.YtkljgpepogkgdaaDoor
namespace Go.Proofs.YtkljgpepogkgdaaDoor
open Go Go.Vex
set_option maxRecDepth 20000
set_option maxHeartbeats 4000000
noncomputable def I15 : FnT := [(15, fi Tryd.f15 ⟨[], 0⟩)]
theorem I15ok : FnsOk kit I15 := ⟨fo15 _, trivial⟩
theorem U0 : U32 0 := ⟨by decide, by decide⟩
theorem bnd0 (n : Nat) (h : n < 4611686018427387904) {ws : List Int} (hn : ws.length = n) (t l : Int) (od : Bool) : BBnd ⟨ws, [], [], [], t, l, od, [], [], [], [], 0, 0, 0, 0⟩ :=
  ⟨by simp only; omega, by simp, by simp, by simp, by simp, by simp, by simp, by simp⟩
theorem bdw0 {ws : List Int} {t l : Int} {od : Bool} (h : ws.length < 4611686018427387904) (hw : ∀ z ∈ ws, U32 z) (ht : 0 ≤ t ∧ t < 18446744073709551616) : BdOkW ⟨ws, [], [], [], t, l, od, [], [], [], [], 0, 0, 0, 0⟩ :=
  ⟨bnd0 _ h rfl t l od, by simp, ht, by simp, hw, by simp⟩
theorem reg0 {pc : Int} (h : U32 pc) : RegOk ⟨List.replicate 16 0, pc, 0, 0, false, false⟩ :=
  ⟨by simp, fun z hz => by rw [List.eq_of_mem_replicate hz]; exact ⟨by decide, by decide⟩, h, U0, U0⟩
theorem step_awake : stepF ⟨List.replicate 16 0, 4, 0, 0, false, false⟩ ⟨[943980543], [], [], [], 0, -1, false, [], [], [], [], 0, 0, 0, 0⟩ = ⟨⟨1, 1, 0, 0, 0, 0, false, 0, false, 0⟩, ⟨[0, 4294967295, 0, 0, 0, 0, 0, 0, 0, 0, 0, 0, 0, 0, 0, 0], 8, 0, 0, false, false⟩, ⟨[943980543], [], [], [], 0, -1, false, [102], [4], [0], [0], 1, 0, 1, 1⟩⟩ := by kernel_rfl
theorem awake_spec : Spec1 kit 15 [] [.glob 0 layoutsL] false (.b (.lit true)) [.glob 0 layoutsL] [] := by
  refine Spec1.mk2 rfl fun F => ?_
  refine into I15ok 6 ?_
  conv => cbv
  refine OkCall.ext (HImp.toInts (k := .u32) 3 1 [.lit 943980543] rfl rfl).ext ?_
  refine OkCall.ext (HExt.nilFill 4 1 0 1 nilU rfl rfl nilU_ok) ?_
  refine OkCall.ext (HExt.nilFill 4 2 0 1 nilI rfl rfl nilI_ok) ?_
  refine OkCall.ext (HExt.nilFill 4 3 0 1 nilI rfl rfl nilI_ok) ?_
  refine OkCall.ext (HExt.nilFill 4 7 0 4 emptyRows rfl rfl emptyRows_ok) ?_
  refine OkCall.ext (HImp.fold (S := boardSh ⟨[943980543], [], [], [], 0, -1, false, [], [], [], [], 0, 0, 0, 0⟩) 4 [3, 5, 6, 7, 8] (boardL ⟨[943980543], [], [], [], 0, -1, false, [], [], [], [], 0, 0, 0, 0⟩ 1 0 0 0 0 1 0 0 0 0) (by decide) ?_ ⟨1, 0, 0, 0, 0, 1, 0, 0, 0, 0, ⟨rfl, rfl, rfl, rfl, rfl, rfl, rfl, rfl, Nat.le_refl _⟩, rfl⟩).ext ?_
  · conv => cbv
    exact ⟨⟨fun j _ => by cbv, by simp only [leafs], trivial⟩, trivial⟩
  refine OkCall.by_spec (step_spec ⟨List.replicate 16 0, 4, 0, 0, false, false⟩ ⟨[943980543], [], [], [], 0, -1, false, [], [], [], [], 0, 0, 0, 0⟩ (reg0 ⟨by decide, by decide⟩) (bdw0 (by decide) (by intro z hz; simp at hz; subst hz; exact ⟨by decide, by decide⟩) ⟨by decide, by decide⟩) _ step_awake) [2, 4, 0] (by decide) (by cbv) (by cbv) ?_
  conv => cbv
  refine Br.yes (by simp only [leafs]; rfl) ?_
  conv => cbv
  refine Br.yes (by simp only [leafs]; rfl) ?_
  conv => cbv
  refine (LeOut.mk' [0, 1] (by decide) rfl (by decide) ?_ (by cbv)).two
  conv => cbv
  simp only [leafs]
  rfl
end Go.Proofs.YtkljgpepogkgdaaDoor
