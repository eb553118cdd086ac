/-
  Bench.board, contract.
-/
import Derived.Test.YtkljgpepogkgdaaDoorB
set_option linter.unusedVariables false
set_option linter.unusedSimpArgs false
namespace Go.Proofs.YtkljgpepogkgdaaDoor
open Go Go.Vex
set_option maxRecDepth 20000
set_option maxHeartbeats 4000000
theorem BImp.rows0 {T : TypeId} {l : List SV} (w : Nat) (f : Nat → List SV) : BImp (.cells T l) (.cells T (.rows w (.ex 0) f :: l)) :=
  ⟨fun ρ addr o w' ⟨cs, h1, h2⟩ => ⟨cs, .cons [] cs rfl (.rows (by simp) (fun j hj => by simp at hj)) h1, h2⟩⟩
noncomputable def I12 : FnT := [(12, fi Tryd.f12 ⟨[], 0⟩), (16, fi Tryd.f16 ⟨[], 0⟩)]
theorem I12ok : FnsOk kit I12 := ⟨fo12 _, fo16 _, trivial⟩
theorem board_spec (words values cycles faults : List Int) (time line : Int) (odd : Bool) (mw mv mc mf cw cv cc cf : Nat) (h1 : words.length = mw) (h2 : values.length = mv) (h3 : cycles.length = mc) (h4 : faults.length = mf)
    (g1 : mw ≤ 35184372088800) (g2 : mv ≤ 35184372088800) (g3 : mc ≤ 17592186044400) (g4 : mf ≤ 17592186044400) :
    Spec1 kit 12 [.agg [.slc 0 0 1 (.lit 0) (.ex mw) (.ex cw), .slc 1 0 1 (.lit 0) (.ex mv) (.ex cv), .slc 2 0 1 (.lit 0) (.ex mc) (.ex cc), .slc 3 0 1 (.lit 0) (.ex mf) (.ex cf), .i .u64 (.ex time), .i .i64 (.ex line), .b (.ex odd)]]
      [intsB .u32 mw words, intsB .u32 mv values, intsB .i64 mc cycles, intsB .i64 mf faults] false (.p 5 (.at 0)) [intsB .u32 mw words, intsB .u32 mv values, intsB .i64 mc cycles, intsB .i64 mf faults]
      [boardB ⟨words, values, cycles, faults, time, line, odd, [], [], [], [], 0, 0, 0, 0⟩] := by
  refine Spec1.mk2 rfl fun F => ?_
  refine into I12ok 6 ?_
  conv => cbv
  refine ⟨eqN.rfl _, apOk.mk (by omega) (by omega), AllN.mk fun k1 hk1 => ?_⟩
  conv => cbv
  refine ⟨eqN.rfl _, apOk.mk (by omega) (by omega), AllN.mk fun k2 hk2 => ?_⟩
  conv => cbv
  refine ⟨eqN.rfl _, apOk.mk (by omega) (by omega), AllN.mk fun k3 hk3 => ?_⟩
  conv => cbv
  refine ⟨eqN.rfl _, apOk.mk (by omega) (by omega), AllN.mk fun k4 hk4 => ?_⟩
  conv => cbv
  refine ⟨apOk.mk (by omega) (by omega), AllN.mk fun k5 hk5 => ?_⟩
  conv => cbv
  refine LeOut2.imp (HImp.roInts 8 rfl) (LeOut2.imp (HImp.roInts 9 rfl) (LeOut2.imp (HImp.roInts 10 rfl) (LeOut2.imp (HImp.roInts 11 rfl) (LeOut2.imp (HImp.at 12 rfl (BImp.rows0 4 (logF [] [] [] []))) ?_))))
  refine LeOut2.imp (HImp.fold (S := boardSh _) 7 [8, 9, 10, 11, 12] (boardL ⟨words, values, cycles, faults, time, line, odd, [], [], [], [], 0, 0, 0, 0⟩ mw mv mc mf 0 k1 k2 k3 k4 k5) (by decide) ?_ ⟨mw, mv, mc, mf, 0, k1, k2, k3, k4, k5, ⟨h1, h2, h3, h4, rfl, rfl, rfl, rfl, hk5⟩, rfl⟩) ?_
  · conv => cbv
    exact ⟨⟨fun j _ => by cbv, trivial⟩, trivial⟩
  exact (LeOut.mk' [0, 1, 2, 3, 4, 7] (by decide) rfl id (by cbv) (by cbv)).two
end Go.Proofs.YtkljgpepogkgdaaDoor
