/-
  VEX, draws, 3: what is checked of a drawing region beforehand, by computation.
-/
import Derived.Test.YtkljgpepogkgdaaDoorVE
set_option linter.unusedSimpArgs false
namespace Go.Vex
set_option linter.unusedVariables false

/-! ### Who stands ahead of whom -/
theorem ordB_mono {ops : Array Oper} : ∀ (F n i k : Nat), ordB ops F i k = true → ordB ops (F + n) i k = true
  | 0, n, i, k, h => by simp [ordB] at h
  | F + 1, n, i, k, h => by
    rw [show F + 1 + n = (F + n) + 1 by omega]
    unfold ordB at h ⊢
    split at h
    · cases h
    · rename_i o ho
      obtain ⟨e, he, hb⟩ := Array.any_eq_true'.1 h
      refine Array.any_eq_true'.2 ⟨e, he, ?_⟩
      simp only [Bool.and_eq_true, Bool.or_eq_true] at hb ⊢
      exact ⟨hb.1, hb.2.imp id fun h => ordB_mono F n i e.on h⟩
theorem Before.edge {ops : Array Oper} {k : Nat} {o : Oper} (ho : ops[k]? = some o) {e : Edge} (he : e ∈ o.after) (hb : Region.binds .any e = true) : Before ops e.on k :=
  ⟨1, by unfold ordB; rw [ho]; exact Array.any_eq_true'.2 ⟨e, he, by simp [hb]⟩⟩
theorem Before.behind {ops : Array Oper} {k i : Nat} {o : Oper} (ho : ops[k]? = some o) {e : Edge} (he : e ∈ o.after) (hb : Region.binds .any e = true) (h : Before ops i e.on) : Before ops i k := by
  obtain ⟨F, h⟩ := h
  exact ⟨F + 1, by unfold ordB; rw [ho]; exact Array.any_eq_true'.2 ⟨e, he, by simp [hb, h]⟩⟩
theorem Before.trans {ops : Array Oper} {i j k : Nat} (h1 : Before ops i j) (h2 : Before ops j k) : Before ops i k := by
  obtain ⟨F, h2⟩ := h2
  induction F generalizing k with
  | zero => simp [ordB] at h2
  | succ F ih =>
    unfold ordB at h2
    split at h2
    · cases h2
    · rename_i o ho
      obtain ⟨e, he, hb⟩ := Array.any_eq_true'.1 h2
      simp only [Bool.and_eq_true, Bool.or_eq_true, beq_iff_eq] at hb
      rcases hb.2 with h | h
      · subst h; exact h1.behind ho he hb.1
      · exact (ih h).behind ho he hb.1

def predE : List Edge → List Nat → Nat
  | [], _ => 0
  | e :: r, acc => if Region.binds .any e = true then predE r acc ||| ((1 <<< e.on) ||| acc.getD e.on 0) else predE r acc
def predsL : List Oper → List Nat → List Nat
  | [], acc => acc
  | o :: r, acc => predsL r (acc ++ [predE o.after.toList acc])

theorem predE_sound {acc : List Nat} {j : Nat} : ∀ {es : List Edge}, (predE es acc).testBit j = true → ∃ e ∈ es, Region.binds .any e = true ∧ (e.on = j ∨ (acc.getD e.on 0).testBit j = true)
  | [], h => by simp [predE] at h
  | e :: r, h => by
    unfold predE at h
    split at h
    · rename_i hb
      rw [Nat.testBit_or, Nat.testBit_or, Nat.one_shiftLeft, Nat.testBit_two_pow] at h
      simp only [Bool.or_eq_true, decide_eq_true_eq] at h
      rcases h with h | h
      · obtain ⟨e', he', h'⟩ := predE_sound h; exact ⟨e', by simp [he'], h'⟩
      · exact ⟨e, by simp, hb, h⟩
    · obtain ⟨e', he', h'⟩ := predE_sound h; exact ⟨e', by simp [he'], h'⟩

theorem predsL_sound {ops : Array Oper} : ∀ (l : List Oper) (acc : List Nat), (∀ j, l[j]? = ops[acc.length + j]?) → (∀ k j, (acc.getD k 0).testBit j = true → Before ops j k) →
    ∀ k j, ((predsL l acc).getD k 0).testBit j = true → Before ops j k
  | [], acc, _, h => h
  | o :: r, acc, hl, h => by
    unfold predsL
    refine predsL_sound r _ (fun j => ?_) fun k j hk => ?_
    · have := hl (j + 1); simp only [List.getElem?_cons_succ] at this; rw [this]; simp [Nat.add_comm, Nat.add_left_comm]
    · rw [List.getD_eq_getElem?_getD] at hk
      rcases Nat.lt_trichotomy k acc.length with hk' | hk' | hk'
      · rw [List.getElem?_append_left hk', ← List.getD_eq_getElem?_getD] at hk; exact h k j hk
      · subst hk'
        simp only [List.getElem?_concat_length, Option.getD_some] at hk
        have ho : ops[acc.length]? = some o := by have := hl 0; simpa using this.symm
        obtain ⟨e, he, hb, hj⟩ := predE_sound hk
        have he' : e ∈ o.after := by simpa using he
        rcases hj with hj | hj
        · subst hj; exact .edge ho he' hb
        · exact (h _ _ hj).behind ho he' hb
      · rw [List.getElem?_eq_none (by simp; omega)] at hk; simp at hk

def preds (ops : List Oper) : List Nat := predsL ops []
theorem preds_sound {ops : Array Oper} {k j : Nat} (h : ((preds ops.toList).getD k 0).testBit j = true) : Before ops j k :=
  predsL_sound ops.toList [] (fun j => by simp) (by simp) k j h

/-- No other may pass it. -/
def barB (ps : List Nat) (n k : Nat) : Bool := (List.range n).all fun j => if j < k then (ps.getD k 0).testBit j else if j = k then true else (ps.getD j 0).testBit k
theorem barB_sound {ops : Array Oper} {k : Nat} (h : barB (preds ops.toList) ops.size k = true) : (∀ j, j < k → k < ops.size → Before ops j k) ∧ ∀ i, k < i → i < ops.size → Before ops k i := by
  unfold barB at h
  rw [List.all_eq_true] at h
  constructor
  · intro j hj hk
    have := h j (by simp; omega)
    rw [if_pos hj] at this
    exact preds_sound this
  · intro i hi hn
    have := h i (by simp; omega)
    rw [if_neg (by omega), if_neg (by omega)] at this
    exact preds_sound this

def okPair (ops : Array Oper) (a b : Oper) : Bool := a.apart ops b && (clsOp a.op == 0 || clsOp b.op == 0 || (Nat.ble (clsOp a.op) 2 && Nat.ble (clsOp b.op) 2))
def drawChk (ops : Array Oper) : Bool := Region.noSelect ops && lowB ops.toList &&
  (let ps := preds ops.toList
   (List.range ops.size).all fun i => (List.range i).all fun k => match ops[k]? with
    | none => true
    | some a => match ops[i]? with
      | none => true
      | some b => (ps.getD i 0).testBit k || okPair ops a b)
theorem drawChk_sound {ops : Array Oper} (h : drawChk ops = true) : Region.noSelect ops = true ∧ lowB ops.toList = true ∧
    ∀ k i ok oi, k < i → ops[k]? = some ok → ops[i]? = some oi → Before ops k i ∨ (ok.apart ops oi = true ∧ PairOk (clsOp ok.op) (clsOp oi.op)) := by
  unfold drawChk at h
  simp only [Bool.and_eq_true] at h
  obtain ⟨⟨h1, h2⟩, h3⟩ := h
  refine ⟨h1, h2, fun k i ok oi hki hk hi => ?_⟩
  have hlt := (Array.getElem?_eq_some_iff.1 hi).1
  have := List.all_eq_true.1 (List.all_eq_true.1 h3 i (by simpa using hlt)) k (by simpa using hki)
  rw [hk, hi] at this
  simp only [Bool.or_eq_true] at this
  rcases this with h | h
  · exact .inl (preds_sound h)
  · unfold okPair at h
    simp only [Bool.and_eq_true, Bool.or_eq_true, beq_iff_eq, Nat.ble_eq] at h
    refine .inr ⟨h.1, ?_⟩
    rcases h.2 with (h | h) | h
    · exact .inl h
    · exact .inr (.inl h)
    · exact .inr (.inr h)

def drawsChk : Code → Bool
  | .region _ ops d => match d with
    | true => drawChk ops
    | false => true
  | .seq a b => drawsChk a && drawsChk b
  | .cond _ a b => drawsChk a && drawsChk b
  | .block _ b => drawsChk b
  | .scope b => drawsChk b
  | .loop b => drawsChk b
  | .rangeFunc _ _ _ b => drawsChk b
  | _ => true
end Go.Vex
