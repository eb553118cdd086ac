/-
  MMUMany: for every input the law answers true and leaves what it was given as it was. The row, the card.
-/
import Derived.Test.YtafhmkedblpdlaaDoorZ5
import Derived.Test.YtafhmkedblpdlaaDoorZ7
namespace Go.Proofs.YtafhmkedblpdlaaDoor.mMUMany
open Go.ChangeShapes Go.WideShapes Go.ChangeAt Go.RowKit Go.Vex
set_option maxRecDepth 100000
theorem contract (H : Type) (enc : TypeId × Value → H) (W : World) (base : Nat) (args : Array Value) (ds gs : List (DataW H)) (before : List MemPlace)
    (hval : ∀ (j : Nat) t v, Tryd.f3.params[j]? = some t → args[j]? = some v → Value.okWide Tryd.prog W .any base t v)
    (hW : DataW.Whole enc Tryd.prog Tryd.f3.params.toList Rows.mMUManySpec.vars false W args.toList ds gs before)
    (hw : (DataW.weightsEach Tryd.prog (Tryd.f3.params.toList ++ []) (ds ++ gs)).all (· ≤ reachBytes) = true) (hlaid : laidMetH Tryd.prog Rows.mMUManyRow.laid W) :
    Calls Tryd.prog 3 args W fun e W' => ∃ v, e = .returned v ∧ Rows.mMUManySpec.post enc Tryd.prog Tryd.f3 false true false false W args v W' := by
  have hpar : Tryd.f3.params.toList = [3, 22] := by kernel_rfl
  have hW0 := hW
  obtain ⟨p, q, hA, hV, rfl, hfz, hnd⟩ := hW
  obtain ⟨rfl, rfl⟩ := trodVars_none hV
  rw [hpar] at hA hw
  simp only [List.append_nil] at hw
  have hlen := trodAll_len hA
  obtain ⟨d1, d2, rfl⟩ : ∃ d1 d2, ds = [d1, d2] := by
    match ds, hlen with
    | [d1, d2], _ => exact ⟨d1, d2, rfl⟩
  have hwalk : opnArgs kit.T 9 [3, 22] 1 (lawG 3 [tzB]) := by rw [kit_T]; exact manyM_walk
  have hg := glob_init (show laidMetH Tryd.prog Rows.mMULongRow.laid W from hlaid)
  rw [← kit_P] at hA hw hval
  obtain ⟨ρ1, svs, hp1, k1, k2, k3⟩ := opnArgs_sound (C := kit) (base := base) 9 [3, 22] 1 _ args.toList [d1, d2] p hwalk hA
    (fun j t v e1 e2 => hval j t v (by rw [← Array.getElem?_toList, hpar]; exact e1) (by simpa using e2)) (by simpa [List.all_eq_true] using hw) [some (1, 0)] [tzB] hg rfl
  have hc := calls_of_ok2 (C := kit) (f := 3) (hp := [tzB] ++ hp1) (fun A => by simpa using k3 A) k2 k1
  rw [kit_P] at hc
  refine hc.mono fun e W' ⟨he, hb⟩ => ?_
  subst he
  refine ⟨_, rfl, ?_⟩
  have := post_still (C := kit) (enc := enc) (f := Tryd.f3) (s := Rows.mMUManySpec) (apart := false) (fresh := true) (handsOn := false) (again := false) (ds := [d1, d2]) (gs := []) (tb := 4) (args := args)
    (by rw [kit_P]; exact laidOut) (by rw [kit_P, hpar]; intro t ht; simp only [List.mem_cons, List.not_mem_nil, or_false] at ht; rcases ht with rfl | rfl <;> exact ⟨by kernel_rfl, of_decide_eq_true (by kernel_rfl)⟩)
    (by kernel_rfl) (by rw [kit_P]; kernel_rfl) rfl ⟨rfl, rfl, rfl⟩ (by rw [kit_P]; exact hW0) hb
  rw [kit_P] at this
  exact this
def wArgs : Array Value := #[.int .i64 0, .int .u32 0]
theorem laid_met (os : Os) : laidMet Tryd.prog Rows.mMUManyRow.laid ((laidWorld os).forCall (fun _ _ => 0) ⟨#[], wArgs, []⟩).memory :=
  laidMet_of_run' 8 (by kernel_rfl) (by kernel_rfl)
noncomputable def wData (H : Type) : List (DataW H) := [.lit (.int .i64 0), .lit (.int .u32 0)]
theorem reads (os : Os) {H : Type} (enc : TypeId × Value → H) : ∃ places, DataW.whole enc Tryd.prog ((laidWorld os).forCall (fun _ _ => 0) ⟨#[], wArgs, []⟩).memory Tryd.f3.params.toList Rows.mMUManySpec.vars false wArgs.toList 8 = some (wData H, [], places) :=
  ⟨[], by kernel_rfl⟩
theorem lifted (os : Os) (started : os.Started) (H : Type) (enc : TypeId × Value → H) (F : Stop.Interp) :
    ReturnsInHanded {} Tryd.checked os 3 .any ((OpenSpec.ofChange Rows.mMUManySpec).preRow enc Tryd.prog Tryd.f3 Rows.mMUManyRow.domain false Rows.mMUManyRow.laid) (((OpenSpec.ofChange Rows.mMUManySpec).at F).post enc Tryd.prog Tryd.f3 false true false false) := by
  obtain ⟨places, hx⟩ := reads os enc
  refine returnsInHanded_of_row (C := Tryd.checked) (s := OpenSpec.ofChange Rows.mMUManySpec) own started (by kernel_rfl) Tryd.func3
    (witness_row_at (enc := enc) (C := Tryd.checked) false (laidWorld os) wArgs rfl (by kernel_rfl) (by kernel_rfl) (by kernel_rfl)
      (OpenSpec.preRow_of_cond 8 hx (by kernel_rfl) (fun k hk => by cases hk) (by kernel_rfl) (laid_met os))) ?_
  intro W base args ds gs before hval hW _ _ hw hlaid _ _
  exact contract H enc W base args ds gs before hval hW hw hlaid
theorem said : Rows.MMUManySaid :=
  OpenClaim.holds_of_cond 3 Tryd.f3 rfl rfl rfl rfl rfl rfl rfl ⟨rfl, rfl, rfl, rfl, rfl⟩ rfl rfl rfl rfl rfl (by kernel_rfl) Tryd.func3 (by kernel_rfl)
    (of_decide_eq_true (by kernel_rfl)) (by unfold Func.isWrapper; first | (rw [if_pos (by decide +kernel)]; kernel_rfl) | (rw [if_neg (by decide +kernel)]; exact ⟨rfl, rfl⟩))
    (fun os started H enc _ F => by rw [OpenClaim.pre_eq_preRow]; exact lifted os started H enc F)
theorem plain (f : FuncId) (fn : Func) (hf : Tryd.pinned.checked.prog.funcNamed "cloister/cloisterlaw8.MMUMany" = some f) (hfn : Tryd.pinned.checked.prog.funcs[f]? = some fn) :
    false = Tryd.pinned.checked.prog.looks [] ∧ ∀ (j : Nat) t, fn.params[j]? = some t → Tryd.pinned.checked.prog.wantsStandIn t = false := by
  obtain rfl : f = 3 := Option.some.inj ((show Tryd.prog.funcNamed "cloister/cloisterlaw8.MMUMany" = some 3 by kernel_rfl).symm.trans hf) |>.symm
  obtain rfl : fn = Tryd.f3 := (Option.some.inj (Tryd.func3.symm.trans hfn)).symm
  refine ⟨by kernel_rfl, fun j t ht => ?_⟩
  have hpar : Tryd.f3.params = #[3, 22] := by kernel_rfl
  rw [hpar] at ht
  have hm := Array.mem_of_getElem? ht
  simp only [List.mem_toArray, List.mem_cons, List.not_mem_nil, or_false] at hm
  rcases hm with rfl | rfl
  · exact (show Tryd.prog.wantsStandIn 3 = false by kernel_rfl)
  · exact (show Tryd.prog.wantsStandIn 22 = false by kernel_rfl)
theorem card : Rows.MMUManyCardSaid :=
  Claim7.holds_tied_plain_at .later [] _ _ _ _ said (fun _ h => by cases h) (by kernel_rfl) (fun _ h => by cases h) mMUMany_row_tie rfl ⟨rfl, rfl⟩ (by kernel_rfl) rfl plain (by kernel_rfl)
end Go.Proofs.YtafhmkedblpdlaaDoor.mMUMany

