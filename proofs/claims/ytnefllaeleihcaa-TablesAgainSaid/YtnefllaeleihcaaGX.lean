/-
  TablesAgain: for every input the law answers true and leaves what it was given as it was.
-/
import Derived.Test.YtnefllaeleihcaaZ7
import Derived.Test.YtnefllaeleihcaaRows
import Derived.WalkKit
import Derived.ProofKit
import Derived.OpenShut
import Derived.Deep.DeepHandedRow
import Derived.LaidLaws
set_option linter.unusedVariables false
set_option linter.unusedSimpArgs false
namespace Go.Proofs.Ytnefllaeleihcaa.tablesAgain
open Go.ChangeShapes Go.WideShapes Go.ChangeAt Go.RowKit Go.Vex
set_option maxRecDepth 100000
theorem trodAll_len {H : Type} {enc : TypeId × Value → H} {P : Program} {W : World} {base : Nat} {sp : Nat → Bool} {held : Bool} : ∀ {ts : List Nat} {vals : List Value} {ds : List (DataW H)} {ps : List MemPlace},
    DataW.TrodAll enc P W base sp held ts vals ds ps → ds.length = ts.length
  | [], vals, ds, ps, h => by obtain ⟨_, e, _⟩ := trodAll_nil h; rw [e]; rfl
  | t :: ts, vals, ds, ps, h => by
    obtain ⟨v0, vs0, d0, ds0, p0, q0, _, e0, _, _, r0⟩ := trodAll_cons h
    rw [e0]; simp [trodAll_len r0]
theorem own : ownKnob Try.prog.godebug = none := by kernel_rfl
theorem laidOut : laidOutB Try.prog = true := by kernel_rfl
theorem contract (H : Type) (enc : TypeId × Value → H) (W : World) (base : Nat) (args : Array Value) (ds gs : List (DataW H)) (before : List MemPlace)
    (hval : ∀ (j : Nat) t v, Try.f6.params[j]? = some t → args[j]? = some v → Value.okWide Try.prog W .any base t v)
    (hW : DataW.Whole enc Try.prog Try.f6.params.toList Rows.tablesAgainSpec.vars false W args.toList ds gs before)
    (hw : (DataW.weightsEach Try.prog (Try.f6.params.toList ++ []) (ds ++ gs)).all (· ≤ reachBytes) = true) :
    Calls Try.prog 6 args W fun e W' => ∃ v, e = .returned v ∧ Rows.tablesAgainSpec.post enc Try.prog Try.f6 false true false false W args v W' := by
  have hpar : Try.f6.params.toList = [22] := by kernel_rfl
  have hW0 := hW
  obtain ⟨p, q, hA, hV, rfl, hfz, hnd⟩ := hW
  obtain ⟨rfl, rfl⟩ := trodVars_none hV
  rw [hpar] at hA hw
  simp only [List.append_nil] at hw
  have hlen := trodAll_len hA
  obtain ⟨d1, rfl⟩ : ∃ d1, ds = [d1] := by
    match ds, hlen with
    | [d1], _ => exact ⟨d1, rfl⟩
  have hwalk : opnArgs kit.T 9 [22] 0 (lawK2 6) := by rw [kit_T]; exact again_walk
  rw [← kit_P] at hA hw hval
  obtain ⟨ρ1, svs, hp1, k1, k2, k3⟩ := opnArgs_sound (C := kit) (base := base) 9 [22] 0 _ args.toList [d1] p hwalk hA
    (fun j t v e1 e2 => hval j t v (by rw [← Array.getElem?_toList, hpar]; exact e1) (by simpa using e2)) (by simpa [List.all_eq_true] using hw) [] [] (InitSat.nil W) rfl
  simp only [List.nil_append] at k1 k2
  have hc := calls_of_ok2 (C := kit) (f := 6) (hp := hp1) (fun A => k3 A) k2 k1
  rw [kit_P] at hc
  refine hc.mono fun e W' ⟨he, hb⟩ => ?_
  subst he
  refine ⟨_, rfl, ?_⟩
  have := post_still (C := kit) (enc := enc) (f := Try.f6) (s := Rows.tablesAgainSpec) (apart := false) (fresh := true) (handsOn := false) (again := false) (ds := [d1]) (gs := []) (tb := 4) (args := args)
    (by rw [kit_P]; exact laidOut) (by rw [kit_P, hpar]; intro t ht; simp only [List.mem_cons, List.not_mem_nil, or_false] at ht; rcases ht with rfl <;> exact ⟨by kernel_rfl, of_decide_eq_true (by kernel_rfl)⟩)
    (by kernel_rfl) (by rw [kit_P]; kernel_rfl) rfl ⟨rfl, rfl, rfl⟩ (by rw [kit_P]; exact hW0) hb
  rw [kit_P] at this
  exact this
def wArgs : Array Value := #[.slice none 0 0]
noncomputable def wWorld (os : Os) : World := World.holding Try.prog os ⟨#[], #[], []⟩
theorem laid_met (os : Os) : laidMet Try.prog Rows.tablesAgainRow.laid ((wWorld os).forCall (fun _ _ => 0) ⟨#[], wArgs, []⟩).memory :=
  laidMet_of_run' 8 (by kernel_rfl) (by kernel_rfl)
noncomputable def wData (H : Type) : List (DataW H) := [.nil]
theorem reads (os : Os) {H : Type} (enc : TypeId × Value → H) : ∃ places, DataW.whole enc Try.prog ((wWorld os).forCall (fun _ _ => 0) ⟨#[], wArgs, []⟩).memory Try.f6.params.toList Rows.tablesAgainSpec.vars false wArgs.toList 8 = some (wData H, [], places) :=
  ⟨[], by kernel_rfl⟩
theorem lifted (os : Os) (started : os.Started) (H : Type) (enc : TypeId × Value → H) (F : Stop.Interp) :
    ReturnsInHanded {} Try.checked os 6 .any ((OpenSpec.ofChange Rows.tablesAgainSpec).preRow enc Try.prog Try.f6 Rows.tablesAgainRow.domain false Rows.tablesAgainRow.laid) (((OpenSpec.ofChange Rows.tablesAgainSpec).at F).post enc Try.prog Try.f6 false true false false) := by
  obtain ⟨places, hx⟩ := reads os enc
  refine returnsInHanded_of_row (C := Try.checked) (s := OpenSpec.ofChange Rows.tablesAgainSpec) own started (by kernel_rfl) Try.func6
    (witness_row_at (enc := enc) (C := Try.checked) false (wWorld os) wArgs rfl (by kernel_rfl) (by kernel_rfl) (by kernel_rfl)
      (OpenSpec.preRow_of_cond 8 hx (by kernel_rfl) (fun k hk => by cases hk) (by kernel_rfl) (laid_met os))) ?_
  intro W base args ds gs before hval hW _ _ hw _ _ _
  exact contract H enc W base args ds gs before hval hW hw
theorem said : Rows.TablesAgainSaid :=
  OpenClaim.holds_of_cond 6 Try.f6 rfl rfl rfl rfl rfl rfl rfl ⟨rfl, rfl, rfl, rfl, rfl⟩ rfl rfl rfl rfl rfl (by kernel_rfl) Try.func6 (by kernel_rfl)
    (of_decide_eq_true (by kernel_rfl)) (by unfold Func.isWrapper; first | (rw [if_pos (by decide +kernel)]; kernel_rfl) | (rw [if_neg (by decide +kernel)]; exact ⟨rfl, rfl⟩))
    (fun os started H enc _ F => by rw [OpenClaim.pre_eq_preRow]; exact lifted os started H enc F)
end Go.Proofs.Ytnefllaeleihcaa.tablesAgain
