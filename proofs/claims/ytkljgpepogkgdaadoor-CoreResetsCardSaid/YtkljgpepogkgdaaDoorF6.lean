/-
  CoreResets: the row, the card.
-/
import Derived.Test.YtkljgpepogkgdaaDoorR6
import Derived.Test.YtkljgpepogkgdaaDoorCards
import Derived.Test.YtkljgpepogkgdaaDoorTie
import Derived.WalkKit
import Derived.ProofKit
import Derived.OpenShut
import Derived.Deep.DeepHandedRow
namespace Go.Proofs.YtkljgpepogkgdaaDoor.coreResets
open Go.ChangeShapes Go.WideShapes Go.ChangeAt Go.RowKit Go.Vex
set_option maxRecDepth 100000

theorem own : ownKnob Tryd.prog.godebug = none := by kernel_rfl
theorem laidOut : laidOutB Tryd.prog = true := by kernel_rfl

/-- What the walk gives, for every argument and every world. -/
theorem contract (H : Type) (enc : TypeId × Value → H) (W : World) (base : Nat) (args : Array Value) (ds gs : List (DataW H)) (before : List MemPlace)
    (hval : ∀ (j : Nat) t v, Tryd.f6.params[j]? = some t → args[j]? = some v → Value.okWide Tryd.prog W .any base t v)
    (hW : DataW.Whole enc Tryd.prog Tryd.f6.params.toList Rows.coreResetsSpec.vars false W args.toList ds gs before)
    (hw : (DataW.weightsEach Tryd.prog (Tryd.f6.params.toList ++ []) (ds ++ gs)).all (· ≤ reachBytes) = true) :
    Calls Tryd.prog 6 args W fun e W' => ∃ v, e = .returned v ∧ Rows.coreResetsSpec.post enc Tryd.prog Tryd.f6 false true false false W args v W' := by
  have hpar : Tryd.f6.params.toList = [22, 25, 31] := by kernel_rfl
  have hW0 := hW
  obtain ⟨p, q, hA, hV, rfl, hfz, hnd⟩ := hW
  obtain ⟨rfl, rfl⟩ := trodVars_none hV
  rw [hpar] at hA hw
  simp only [List.append_nil] at hw
  have hlen : ∃ d1 d2 d3, ds = [d1, d2, d3] := by
    obtain ⟨v0, vs0, d0, ds0, p0, q0, _, e0, _, _, r0⟩ := trodAll_cons hA
    obtain ⟨v1, vs1, d1, ds1, p1, q1, _, e1, _, _, r1⟩ := trodAll_cons r0
    obtain ⟨v2, vs2, d2, ds2, p2, q2, _, e2, _, _, r2⟩ := trodAll_cons r1
    obtain ⟨_, e3, _⟩ := trodAll_nil r2
    exact ⟨d0, d1, d2, by rw [e0, e1, e2, e3]⟩
  obtain ⟨d1, d2, d3, rfl⟩ := hlen
  have hwalk : opnArgs kit.T 9 [22, 25, 31] 0 (lawK 6 []) := by rw [kit_T]; exact resets_walk
  rw [← kit_P] at hA hw hval
  obtain ⟨ρ1, svs, hp1, k1, k2, k3⟩ := opnArgs_sound (C := kit) (base := base) 9 [22, 25, 31] 0 _ args.toList [d1, d2, d3] p hwalk hA
    (fun j t v e1 e2 => hval j t v (by rw [← Array.getElem?_toList, hpar]; exact e1) (by simpa using e2)) (by simpa [List.all_eq_true] using hw) [] [] (InitSat.nil W) rfl
  simp only [List.nil_append] at k1 k2
  have hc := calls_of_ok (C := kit) (f := 6) (hp := hp1) (fun A => by simpa using k3 A) k2 k1
  rw [kit_P] at hc
  refine hc.mono fun e W' ⟨he, hb⟩ => ?_
  subst he
  refine ⟨_, rfl, ?_⟩
  have := post_still (C := kit) (enc := enc) (f := Tryd.f6) (s := Rows.coreResetsSpec) (apart := false) (fresh := true) (handsOn := false) (again := false) (ds := [d1, d2, d3]) (gs := []) (tb := 4) (args := args)
    (by rw [kit_P]; exact laidOut) (by rw [kit_P, hpar]; intro t ht; simp only [List.mem_cons, List.not_mem_nil, or_false] at ht; rcases ht with rfl | rfl | rfl <;> exact ⟨by kernel_rfl, of_decide_eq_true (by kernel_rfl)⟩)
    (by kernel_rfl) (by rw [kit_P]; kernel_rfl) rfl ⟨rfl, rfl, rfl⟩ (by rw [kit_P]; exact hW0) hb
  rw [kit_P] at this
  exact this

/-- A world for the witness: the table holds what its initialiser lays. -/
def tabCells : Array Value := #[0,0,0,0, 22,18,14,0, 22,18,-1,18, -1,22,18,18, 22,-1,-1,22, 22,-1,-1,0, -1,22,-1,0, -1,-1,-1,26, -1,-1,-1,0].map fun n => .int .i64 n
noncomputable def laidWorld (os : Os) : World :=
  { World.holding Tryd.prog os ⟨#[], #[], []⟩ with heap := (World.holding Tryd.prog os ⟨#[], #[], []⟩).heap.modify 0 fun
      | .cells _ t frozen => .cells tabCells t frozen
      | o => o }
def wArgs : Array Value := #[.int .u32 0, .agg (Array.replicate 19 (.int .u32 0) ++ #[.bool false, .bool false]),
  .agg #[.slice none 0 0, .slice none 0 0, .slice none 0 0, .slice none 0 0, .int .u64 0, .int .i64 0, .bool false]]
theorem laid_met (os : Os) : laidMet Tryd.prog Rows.coreResetsRow.laid ((laidWorld os).forCall (fun _ _ => 0) ⟨#[], wArgs, []⟩).memory :=
  laidMet_of_run' 8 (by kernel_rfl) (by kernel_rfl)
noncomputable def wData (H : Type) : List (DataW H) := [.lit (.int .u32 0), .agg (.agg (List.replicate 16 (.lit (.int .u32 0))) :: [.lit (.int .u32 0), .lit (.int .u32 0), .lit (.int .u32 0), .lit (.bool false), .lit (.bool false)]),
  .agg [.nil, .nil, .nil, .nil, .lit (.int .u64 0), .lit (.int .i64 0), .lit (.bool false)]]
theorem reads (os : Os) {H : Type} (enc : TypeId × Value → H) : ∃ places, DataW.whole enc Tryd.prog ((laidWorld os).forCall (fun _ _ => 0) ⟨#[], wArgs, []⟩).memory Tryd.f6.params.toList Rows.coreResetsSpec.vars false wArgs.toList 8 = some (wData H, [], places) :=
  ⟨[], by kernel_rfl⟩

theorem lifted (os : Os) (started : os.Started) (H : Type) (enc : TypeId × Value → H) (F : Stop.Interp) :
    ReturnsInHanded {} Tryd.checked os 6 .any ((OpenSpec.ofChange Rows.coreResetsSpec).preRow enc Tryd.prog Tryd.f6 Rows.coreResetsRow.domain false Rows.coreResetsRow.laid) (((OpenSpec.ofChange Rows.coreResetsSpec).at F).post enc Tryd.prog Tryd.f6 false true false false) := by
  obtain ⟨places, hx⟩ := reads os enc
  refine returnsInHanded_of_row (C := Tryd.checked) (s := OpenSpec.ofChange Rows.coreResetsSpec) own started (by kernel_rfl) Tryd.func6
    (witness_row_at (enc := enc) (C := Tryd.checked) false (laidWorld os) wArgs rfl (by kernel_rfl) (by kernel_rfl) (by kernel_rfl)
      (OpenSpec.preRow_of_cond 8 hx (by kernel_rfl) (fun k hk => by cases hk) (by kernel_rfl) (laid_met os))) ?_
  intro W base args ds gs before hval hW _ _ hw _ _ _
  exact contract H enc W base args ds gs before hval hW hw

theorem said : Rows.CoreResetsSaid :=
  OpenClaim.holds_of_cond 6 Tryd.f6 rfl rfl rfl rfl rfl rfl rfl ⟨rfl, rfl, rfl, rfl, rfl⟩ rfl rfl rfl rfl rfl (by kernel_rfl) Tryd.func6 (by kernel_rfl)
    (of_decide_eq_true (by kernel_rfl)) (by unfold Func.isWrapper; first | (rw [if_pos (by decide +kernel)]; kernel_rfl) | (rw [if_neg (by decide +kernel)]; exact ⟨rfl, rfl⟩))
    (fun os started H enc _ F => by rw [OpenClaim.pre_eq_preRow]; exact lifted os started H enc F)

theorem plain (f : FuncId) (fn : Func) (hf : Tryd.pinned.checked.prog.funcNamed "cloister/cloisterlaw12.CoreResets" = some f) (hfn : Tryd.pinned.checked.prog.funcs[f]? = some fn) :
    false = Tryd.pinned.checked.prog.looks [] ∧ ∀ (j : Nat) t, fn.params[j]? = some t → Tryd.pinned.checked.prog.wantsStandIn t = false := by
  obtain rfl : f = 6 := Option.some.inj ((show Tryd.prog.funcNamed "cloister/cloisterlaw12.CoreResets" = some 6 by kernel_rfl).symm.trans hf) |>.symm
  obtain rfl : fn = Tryd.f6 := (Option.some.inj (Tryd.func6.symm.trans hfn)).symm
  refine ⟨by kernel_rfl, fun j t ht => ?_⟩
  have hpar : Tryd.f6.params = #[22, 25, 31] := by kernel_rfl
  rw [hpar] at ht
  have hm := Array.mem_of_getElem? ht
  simp only [List.mem_toArray, List.mem_cons, List.not_mem_nil, or_false] at hm
  rcases hm with rfl | rfl | rfl
  · exact (show Tryd.prog.wantsStandIn 22 = false by kernel_rfl)
  · exact (show Tryd.prog.wantsStandIn 25 = false by kernel_rfl)
  · exact (show Tryd.prog.wantsStandIn 31 = false by kernel_rfl)

theorem card : Rows.CoreResetsCardSaid :=
  Claim7.holds_tied_plain_at .later [] _ _ _ _ said (fun _ h => by cases h) (by kernel_rfl) (fun _ h => by cases h) coreResets_row_tie rfl ⟨rfl, rfl⟩ (by kernel_rfl) rfl plain (by kernel_rfl)
end Go.Proofs.YtkljgpepogkgdaaDoor.coreResets
