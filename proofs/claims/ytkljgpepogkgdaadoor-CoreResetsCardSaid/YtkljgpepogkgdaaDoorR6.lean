/-
  CoreResets: the walk.
-/
import Derived.Test.YtkljgpepogkgdaaDoorCK
import Derived.Test.YtkljgpepogkgdaaDoorV19
namespace Go.Proofs.YtkljgpepogkgdaaDoor
open Go Go.Vex
set_option maxRecDepth 20000
set_option maxHeartbeats 4000000
noncomputable def I6 : FnT := [(6, fi Tryd.f6 ⟨[], 0⟩), (17, fi Tryd.f17 ⟨[], 0⟩), (12, fi Tryd.f12 ⟨[], 0⟩), (16, fi Tryd.f16 ⟨[], 0⟩), (11, fi Tryd.f11 ⟨[], 0⟩)]
theorem I6ok : FnsOk kit I6 := ⟨fo6 _, fo17 _, fo12 _, fo16 _, fo11 _, trivial⟩
def lawK (f : Nat) (hp0 : List Blk) (svs : List SV) (hp : List Blk) : Prop :=
  ∀ A, OkCall kit f svs (hp0 ++ hp ++ [.abs A]) fun q v hp' => LeOut ((hp0 ++ hp).length + 1) q v hp' false (.b (.lit true)) (hp0 ++ hp ++ [.abs A])
theorem resets_walk : opnArgs tab 9 [22, 25, 31] 0 (lawK 6 []) := by
  cbv
  intro e he
  cbv
  intro R hR1 hR2
  cbv
  intro pc hpc
  cbv
  intro vec hvec
  cbv
  intro back hback
  cbv
  intro on
  cbv
  intro hd
  cbv
  intro n1 c1 W hW1 hW2 hW3 hW4 hW5
  cbv
  intro n2 c2 V hV1 hV2 hV3 hV4 hV5
  cbv
  intro n3 c3 Y hY1 hY2 hY3 hY4 hY5
  cbv
  intro n4 c4 F hF1 hF2 hF3 hF4 hF5
  cbv
  intro time htime
  cbv
  intro line hline
  cbv
  intro odd
  have h1 : n1 * 4 ≤ 140737488351232 := hW4
  have h2 : n2 * 4 ≤ 140737488351232 := hV4
  have h3 : n3 * 8 ≤ 140737488351232 := hY4
  have h4 : n4 * 8 ≤ 140737488351232 := hF4
  intro A
  refine into I6ok 6 ?_
  cbv
  refine ⟨eqN.rfl _, apOk.mk (by omega) (by omega), AllN.mk fun k1 hk1 => ?_⟩
  cbv
  refine ⟨eqN.rfl _, apOk.mk (by omega) (by omega), AllN.mk fun k2 hk2 => ?_⟩
  cbv
  refine ⟨eqN.rfl _, apOk.mk (by omega) (by omega), AllN.mk fun k3 hk3 => ?_⟩
  cbv
  refine ⟨eqN.rfl _, apOk.mk (by omega) (by omega), AllN.mk fun k4 hk4 => ?_⟩
  cbv
  refine ⟨apOk.mk (by omega) (by omega), AllN.mk fun k5 hk5 => ?_⟩
  cbv
  refine Br.yes (tAnd (tEqL _) (tEqI _)) ?_
  cbv
  refine Br.yes (tAnd (tEqL _) (tAnd (tEqI _) (tAnd (tEqI _) (tAnd (tEqI _) (tAnd (tEqB _) (tEqB _)))))) ?_
  cbv
  trace_state
  exact LeOut.eq [0, 1, 2, 3, 4] (by decide) rfl (by simp) rfl rfl
end Go.Proofs.YtkljgpepogkgdaaDoor
