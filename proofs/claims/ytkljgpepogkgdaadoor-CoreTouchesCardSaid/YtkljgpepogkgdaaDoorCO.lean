/-
  isa.ops: the table.
-/
import Derived.Test.YtkljgpepogkgdaaDoorCK
import Derived.Test.YtkljgpepogkgdaaDoorV16
set_option linter.unusedVariables false
set_option linter.unusedSimpArgs false
namespace Go.Proofs.YtkljgpepogkgdaaDoor
open Go Go.Vex
set_option maxRecDepth 20000
def opsL : List SV := [
  .str ⟨#[]⟩, .i .i64 (.lit 0), .i .i64 (.lit 0), .i .i64 (.lit 0),
  .str ⟨#[97, 100, 100]⟩, .i .i64 (.lit 1), .i .i64 (.lit 0), .i .i64 (.lit 0),
  .str ⟨#[115, 117, 98]⟩, .i .i64 (.lit 1), .i .i64 (.lit 0), .i .i64 (.lit 0),
  .str ⟨#[109, 117, 108]⟩, .i .i64 (.lit 1), .i .i64 (.lit 0), .i .i64 (.lit 0),
  .str ⟨#[100, 105, 118, 117]⟩, .i .i64 (.lit 1), .i .i64 (.lit 0), .i .i64 (.lit 0),
  .str ⟨#[114, 101, 109, 117]⟩, .i .i64 (.lit 1), .i .i64 (.lit 0), .i .i64 (.lit 0),
  .str ⟨#[97, 110, 100]⟩, .i .i64 (.lit 1), .i .i64 (.lit 0), .i .i64 (.lit 0),
  .str ⟨#[111, 114]⟩, .i .i64 (.lit 1), .i .i64 (.lit 0), .i .i64 (.lit 0),
  .str ⟨#[120, 111, 114]⟩, .i .i64 (.lit 1), .i .i64 (.lit 0), .i .i64 (.lit 0),
  .str ⟨#[115, 104, 108]⟩, .i .i64 (.lit 1), .i .i64 (.lit 0), .i .i64 (.lit 0),
  .str ⟨#[115, 104, 114]⟩, .i .i64 (.lit 1), .i .i64 (.lit 0), .i .i64 (.lit 0),
  .str ⟨#[115, 97, 114]⟩, .i .i64 (.lit 1), .i .i64 (.lit 0), .i .i64 (.lit 0),
  .str ⟨#[115, 108, 116]⟩, .i .i64 (.lit 1), .i .i64 (.lit 0), .i .i64 (.lit 0),
  .str ⟨#[115, 108, 116, 117]⟩, .i .i64 (.lit 1), .i .i64 (.lit 0), .i .i64 (.lit 0),
  .str ⟨#[97, 100, 100, 105]⟩, .i .i64 (.lit 2), .i .i64 (.lit 1), .i .i64 (.lit 0),
  .str ⟨#[97, 110, 100, 105]⟩, .i .i64 (.lit 2), .i .i64 (.lit 2), .i .i64 (.lit 0),
  .str ⟨#[111, 114, 105]⟩, .i .i64 (.lit 2), .i .i64 (.lit 2), .i .i64 (.lit 0),
  .str ⟨#[120, 111, 114, 105]⟩, .i .i64 (.lit 2), .i .i64 (.lit 2), .i .i64 (.lit 0),
  .str ⟨#[115, 104, 108, 105]⟩, .i .i64 (.lit 2), .i .i64 (.lit 3), .i .i64 (.lit 0),
  .str ⟨#[115, 104, 114, 105]⟩, .i .i64 (.lit 2), .i .i64 (.lit 3), .i .i64 (.lit 0),
  .str ⟨#[115, 97, 114, 105]⟩, .i .i64 (.lit 2), .i .i64 (.lit 3), .i .i64 (.lit 0),
  .str ⟨#[115, 108, 116, 105]⟩, .i .i64 (.lit 2), .i .i64 (.lit 1), .i .i64 (.lit 0),
  .str ⟨#[115, 108, 116, 117, 105]⟩, .i .i64 (.lit 2), .i .i64 (.lit 1), .i .i64 (.lit 0),
  .str ⟨#[108, 117, 105]⟩, .i .i64 (.lit 4), .i .i64 (.lit 2), .i .i64 (.lit 0),
  .str ⟨#[108, 98]⟩, .i .i64 (.lit 2), .i .i64 (.lit 1), .i .i64 (.lit 1),
  .str ⟨#[108, 98, 117]⟩, .i .i64 (.lit 2), .i .i64 (.lit 1), .i .i64 (.lit 1),
  .str ⟨#[108, 104]⟩, .i .i64 (.lit 2), .i .i64 (.lit 1), .i .i64 (.lit 1),
  .str ⟨#[108, 104, 117]⟩, .i .i64 (.lit 2), .i .i64 (.lit 1), .i .i64 (.lit 1),
  .str ⟨#[108, 119]⟩, .i .i64 (.lit 2), .i .i64 (.lit 1), .i .i64 (.lit 1),
  .str ⟨#[115, 98]⟩, .i .i64 (.lit 3), .i .i64 (.lit 1), .i .i64 (.lit 1),
  .str ⟨#[115, 104]⟩, .i .i64 (.lit 3), .i .i64 (.lit 1), .i .i64 (.lit 1),
  .str ⟨#[115, 119]⟩, .i .i64 (.lit 3), .i .i64 (.lit 1), .i .i64 (.lit 1),
  .str ⟨#[98, 101, 113]⟩, .i .i64 (.lit 3), .i .i64 (.lit 1), .i .i64 (.lit 0),
  .str ⟨#[98, 110, 101]⟩, .i .i64 (.lit 3), .i .i64 (.lit 1), .i .i64 (.lit 0),
  .str ⟨#[98, 108, 116]⟩, .i .i64 (.lit 3), .i .i64 (.lit 1), .i .i64 (.lit 0),
  .str ⟨#[98, 103, 101]⟩, .i .i64 (.lit 3), .i .i64 (.lit 1), .i .i64 (.lit 0),
  .str ⟨#[98, 108, 116, 117]⟩, .i .i64 (.lit 3), .i .i64 (.lit 1), .i .i64 (.lit 0),
  .str ⟨#[98, 103, 101, 117]⟩, .i .i64 (.lit 3), .i .i64 (.lit 1), .i .i64 (.lit 0),
  .str ⟨#[106, 97, 108]⟩, .i .i64 (.lit 4), .i .i64 (.lit 1), .i .i64 (.lit 0),
  .str ⟨#[106, 97, 108, 114]⟩, .i .i64 (.lit 2), .i .i64 (.lit 1), .i .i64 (.lit 0),
  .str ⟨#[104, 99, 97, 108, 108]⟩, .i .i64 (.lit 7), .i .i64 (.lit 2), .i .i64 (.lit 0),
  .str ⟨#[99, 108, 111, 99, 107]⟩, .i .i64 (.lit 5), .i .i64 (.lit 0), .i .i64 (.lit 0),
  .str ⟨#[119, 97, 105, 116]⟩, .i .i64 (.lit 8), .i .i64 (.lit 0), .i .i64 (.lit 0),
  .str ⟨#[101, 105]⟩, .i .i64 (.lit 8), .i .i64 (.lit 0), .i .i64 (.lit 0),
  .str ⟨#[100, 105]⟩, .i .i64 (.lit 8), .i .i64 (.lit 0), .i .i64 (.lit 0),
  .str ⟨#[101, 114, 101, 116]⟩, .i .i64 (.lit 8), .i .i64 (.lit 0), .i .i64 (.lit 0),
  .str ⟨#[118, 101, 99]⟩, .i .i64 (.lit 6), .i .i64 (.lit 0), .i .i64 (.lit 0),
  .str ⟨#[104, 97, 108, 116]⟩, .i .i64 (.lit 8), .i .i64 (.lit 0), .i .i64 (.lit 0),
  .str ⟨#[110, 111, 112]⟩, .i .i64 (.lit 8), .i .i64 (.lit 0), .i .i64 (.lit 0)]
noncomputable def I95 : FnT := [(95, fi Tryd.f95 ⟨[], 0⟩)]
theorem I95ok : FnsOk kit I95 := ⟨fo95 _, trivial⟩
theorem ops_spec : Spec1 kit 95 [] [] false (.agg opsL) [] [] := Spec1.mk' rfl fun F => into I95ok 1 (by
  have e : callH kit tab mtab I95 1 95 [] ([] ++ [.abs F]) (fun q v hp' => LeOut (([] : List Blk).length + 1) q v hp' false (.agg opsL) ([] ++ .abs F :: [])) =
    LeOut 1 false (.agg opsL) [.abs F, .cells 131 opsL] false (.agg opsL) ([] ++ .abs F :: []) := by kernel_rfl
  exact e.mpr (LeOut.eq [0] (by decide) rfl id (by kernel_rfl) (by kernel_rfl)))
end Go.Proofs.YtkljgpepogkgdaaDoor
