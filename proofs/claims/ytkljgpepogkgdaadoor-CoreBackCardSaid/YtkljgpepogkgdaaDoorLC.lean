/-
  calm, with no values.
-/
import Derived.Test.YtkljgpepogkgdaaDoorGL
import Derived.Test.YtkljgpepogkgdaaDoorP9
set_option linter.unusedVariables false
set_option linter.unusedSimpArgs false
namespace Go.Proofs.YtkljgpepogkgdaaDoor
open Go Go.Vex
set_option maxRecDepth 20000
set_option maxHeartbeats 4000000
noncomputable def I20 : FnT := [(20, fi Tryd.f20 ⟨[], 0⟩)]
theorem I20ok : FnsOk kit I20 := ⟨fo20 _, trivial⟩
theorem calm_nil (w : Int) : Spec1 kit 20 [.i .u32 (.ex w), .nilslc, .i .u64 (.lit 0)] [] false (.p 1 (.at 0)) [] [boardB (oneB w)] := by
  refine Spec1.mk2 rfl fun F => ?_
  refine into I20ok 6 ?_
  conv => cbv
  refine OkCall.ext (HImp.toInts (k := .u32) 1 1 [.ex w] rfl rfl).ext ?_
  refine OkCall.ext (HExt.nilFill 2 1 0 1 nilU rfl rfl nilU_ok) ?_
  refine OkCall.ext (HExt.nilFill 2 2 0 1 nilI rfl rfl nilI_ok) ?_
  refine OkCall.ext (HExt.nilFill 2 3 0 1 nilI rfl rfl nilI_ok) ?_
  refine OkCall.ext (HExt.nilFill 2 7 0 4 emptyRows rfl rfl emptyRows_ok) ?_
  refine OkCall.ext (HImp.fold (S := boardSh ⟨[w], [], [], [], 0, -1, false, [], [], [], [], 0, 0, 0, 0⟩) 2 [1, 3, 4, 5, 6] (boardL ⟨[w], [], [], [], 0, -1, false, [], [], [], [], 0, 0, 0, 0⟩ 1 0 0 0 0 1 0 0 0 0) (by decide) ?_ ⟨1, 0, 0, 0, 0, 1, 0, 0, 0, 0, ⟨rfl, rfl, rfl, rfl, rfl, rfl, rfl, rfl, Nat.le_refl _⟩, rfl⟩).ext ?_
  · conv => cbv
    exact ⟨⟨fun j _ => by cbv, by simp only [leafs], trivial⟩, trivial⟩
  refine OkCall.by_spec (copied_spec ⟨[w], [], [], [], 0, -1, false, [], [], [], [], 0, 0, 0, 0⟩ ⟨by simp, by simp, by simp, by simp, by simp⟩) [2] (by decide) (by cbv) (by cbv) ?_
  conv => cbv
  exact LeOut.two (LeOut.mk' [0, 8] (by decide) rfl (by decide) (by cbv) (by cbv))
end Go.Proofs.YtkljgpepogkgdaaDoor
