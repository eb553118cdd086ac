/-
  VEX, '==' of structs and arrays of numbers and bools.
-/
import Derived.Test.YtkljgpepogkgdaaDoorVE
import Derived.Laws.StructEq
import Derived.ChangeKeysEq
set_option linter.unusedSimpArgs false
namespace Go.Vex
set_option linter.unusedVariables false

theorem run_underlying' {P : Program} {t : Nat} {d : TypeDesc} (h : P.underlying t = some d) (w : World) : (underlying t).run P w = .ok d w := by
  simp [underlying, h]
theorem run_typeInfo' {P : Program} {t : Nat} {i : TypeInfo} (h : P.info? t = some i) (w : World) : (typeInfo t).run P w = .ok i w := by
  simp [typeInfo, h]

/-- A cell: of such a kind, or a bool. -/
abbrev FK := Option IntKind
def fits1 : FK → Value → Bool
  | some k, .int k' _ => decide (k = k')
  | none, .bool _ => true
  | _, _ => false
def fitsL : List FK → List Value → Bool
  | [], [] => true
  | k :: ks, c :: cs => fits1 k c && fitsL ks cs
  | _, _ => false
theorem fitsL_length : ∀ {ks : List FK} {cs : List Value}, fitsL ks cs = true → cs.length = ks.length
  | [], [], _ => rfl
  | k :: ks, c :: cs, h => by simp [fitsL] at h; simp [fitsL_length h.2]
  | [], _ :: _, h => by simp [fitsL] at h
  | _ :: _, [], h => by simp [fitsL] at h
theorem fitsL_append : ∀ {ks ms : List FK} {cs : List Value}, fitsL (ks ++ ms) cs = true → fitsL ks (cs.take ks.length) = true ∧ fitsL ms (cs.drop ks.length) = true
  | [], ms, cs, h => by simpa [fitsL] using h
  | k :: ks, ms, [], h => by simp [fitsL] at h
  | k :: ks, ms, c :: cs, h => by
    simp only [List.cons_append, fitsL, Bool.and_eq_true] at h
    have := fitsL_append h.2
    simp only [List.length_cons, List.take_succ_cons, List.drop_succ_cons, fitsL, Bool.and_eq_true]
    exact ⟨⟨h.1, this.1⟩, this.2⟩

def flatFs (g : TypeId → Option (List FK)) : List Field → Nat → Option (List FK)
  | [], _ => some []
  | f :: r, off => if f.name = "_" then none else if f.offset = off then (match g f.type with
    | some l => match flatFs g r (off + l.length) with
      | some m => some (l ++ m)
      | none => none
    | none => none) else none
def flatP (P : Program) : Nat → TypeId → Option (List FK)
  | 0, _ => none
  | n + 1, t => match P.info? t with
    | none => none
    | some i => match (match P.underlying t with
        | some .bool => some [none]
        | some (.int k) => some [some k]
        | some (.array m e) => match flatP P n e with
          | some l => some (List.replicate m l).flatten
          | none => none
        | some (.struct fs) => if P.stoodInHeld t = true then none else flatFs (flatP P n) fs.toList 0
        | _ => none) with
      | some l => if i.size = l.length then some l else none
      | none => none

def aggP (P : Program) (t : TypeId) : Bool :=
  match P.underlying t with
  | some (.struct _) => true
  | some (.array ..) => true
  | _ => false
/-- x is the value whose cells are xs. -/
def WholeAt (P : Program) (t : TypeId) (x : Value) (xs : List Value) : Prop := if aggP P t = true then x = .agg xs.toArray else xs = [x]

theorem flatP_info {P : Program} {n : Nat} {t : TypeId} {ks : List FK} (h : flatP P n t = some ks) : ∃ i d, P.info? t = some i ∧ P.underlying t = some d ∧ i.size = ks.length ∧ (aggP P t = false → ks.length = 1) := by
  cases n with
  | zero => simp [flatP] at h
  | succ n =>
    unfold flatP at h
    split at h
    · cases h
    · rename_i i hi
      split at h
      · rename_i l hl
        split at h
        · rename_i hs
          cases h
          split at hl
          · rename_i hu; cases hl; exact ⟨i, _, hi, hu, hs, fun _ => rfl⟩
          · rename_i hu; cases hl; exact ⟨i, _, hi, hu, hs, fun _ => rfl⟩
          · rename_i hu; exact ⟨i, _, hi, hu, hs, fun e => by simp [aggP, hu] at e⟩
          · rename_i hu; exact ⟨i, _, hi, hu, hs, fun e => by simp [aggP, hu] at e⟩
          · cases hl
        · cases h
      · cases h

theorem run_isAggP {P : Program} {t : TypeId} {d : TypeDesc} (h : P.underlying t = some d) (w : World) : (isAgg t).run P w = .ok (aggP P t) w := by
  unfold isAgg aggP
  rw [Sem.run_bind, run_underlying' h w, Result.andThen_ok, h]
  cases d <;> rfl

theorem run_partP {P : Program} {n : Nat} {t : TypeId} {ks : List FK} (h : flatP P n t = some ks) (cs : List Value) (off : Nat) (hl : off + ks.length ≤ cs.length) :
    ∃ x, (∀ w, (part t cs.toArray off).run P w = .ok x w) ∧ WholeAt P t x ((cs.drop off).take ks.length) := by
  obtain ⟨i, d, h1, h2, h3, h4⟩ := flatP_info h
  by_cases ha : aggP P t = true
  · refine ⟨.agg ((cs.drop off).take ks.length).toArray, fun w => ?_, by unfold WholeAt; rw [if_pos ha]⟩
    unfold part
    simp only [Sem.run_bind, run_isAggP h2, Result.andThen_ok, ha, if_true, sizeOf, run_typeInfo' h1, Sem.run_pure, h3]
    congr 2
    apply Array.ext'
    simp [List.extract_eq_take_drop]
  · have ha' : aggP P t = false := by simpa using ha
    have hk := h4 ha'
    have hlt : off < cs.length := by omega
    refine ⟨cs[off], fun w => ?_, ?_⟩
    · unfold part
      simp only [Sem.run_bind, run_isAggP h2, Result.andThen_ok, ha', Bool.false_eq_true, if_false]
      have : cs.toArray[off]? = some cs[off] := by simp [hlt]
      simp only [this, Sem.run_pure]
    · unfold WholeAt
      rw [if_neg ha, hk]
      rw [List.drop_eq_getElem_cons hlt]; rfl

def eqC : Value → Value → Bool
  | .int _ a, .int _ b => a == b
  | .bool a, .bool b => a == b
  | _, _ => false
def eqCs : List Value → List Value → Bool
  | [], [] => true
  | c :: cs, d :: ds => eqC c d && eqCs cs ds
  | _, _ => false
theorem eqCs_append : ∀ {a b c d : List Value}, a.length = b.length → eqCs (a ++ c) (b ++ d) = (eqCs a b && eqCs c d)
  | [], [], c, d, _ => by simp [eqCs]
  | x :: a, y :: b, c, d, h => by
    simp only [List.cons_append, eqCs]
    rw [eqCs_append (by simpa using h), Bool.and_assoc]
  | [], _ :: _, c, d, h => by simp at h
  | _ :: _, [], c, d, h => by simp at h
theorem eqCs_split (k : Nat) {xs ys : List Value} (h : xs.length = ys.length) : eqCs xs ys = (eqCs (xs.take k) (ys.take k) && eqCs (xs.drop k) (ys.drop k)) := by
  rw [← eqCs_append (by simp [h]), List.take_append_drop, List.take_append_drop]

def EqAtP (P : Program) (n : Nat) : Prop := ∀ t ks, flatP P n t = some ks → ∀ d w x y xs ys, n ≤ d → WholeAt P t x xs → WholeAt P t y ys → fitsL ks xs = true → fitsL ks ys = true →
  (Op.equalIn d t x y).run P w = .ok (eqCs xs ys) w

theorem run_eqFields_flat {P : Program} {m d : Nat} (IH : EqAtP P m) (hd : m ≤ d) (xs ys : List Value) : ∀ (fs : List Field) (off : Nat) (ks : List FK) (w : World), flatFs (flatP P m) fs off = some ks → off ≤ xs.length → off ≤ ys.length →
    fitsL ks (xs.drop off) = true → fitsL ks (ys.drop off) = true → (Op.eqFields d xs.toArray ys.toArray fs).run P w = .ok (eqCs (xs.drop off) (ys.drop off)) w
  | [], off, ks, w, h, _, _, hx, hy => by
    simp only [flatFs, Option.some.injEq] at h
    subst h
    have e1 : xs.drop off = [] := List.length_eq_zero_iff.1 (fitsL_length hx)
    have e2 : ys.drop off = [] := List.length_eq_zero_iff.1 (fitsL_length hy)
    rw [e1, e2]; simp [Op.eqFields, eqCs]
  | f :: r, off, ks, w, h, ox, oy, hx, hy => by
    unfold flatFs at h
    split at h
    · cases h
    · rename_i hn
      split at h
      · rename_i ho
        split at h
        · rename_i l hl
          split at h
          · rename_i k2 hk2
            cases h
            have lx := fitsL_length hx
            have ly := fitsL_length hy
            simp only [List.length_drop, List.length_append] at lx ly
            obtain ⟨fx1, fx2⟩ := fitsL_append hx
            obtain ⟨fy1, fy2⟩ := fitsL_append hy
            rw [List.drop_drop] at fx2 fy2
            have ih := fun w => run_eqFields_flat IH hd xs ys r (off + l.length) k2 w hk2 (by omega) (by omega) fx2 fy2
            obtain ⟨a, ra, wa⟩ := run_partP hl xs off (by omega)
            obtain ⟨b, rb, wb⟩ := run_partP hl ys off (by omega)
            have he := IH f.type l hl d w a b _ _ hd wa wb fx1 fy1
            simp only [Op.eqFields, hn, ne_eq, not_false_eq_true, if_true, Sem.run_bind, ho, ra, rb, he, Result.andThen_ok]
            rw [eqCs_split l.length (xs := xs.drop off) (ys := ys.drop off) (by simp; omega)]
            simp only [List.drop_drop]
            cases hc : eqCs ((xs.drop off).take l.length) ((ys.drop off).take l.length)
            · simp
            · simp [ih]
          · cases h
        · cases h
      · cases h

theorem run_eqItems_flat {P : Program} {m d e : Nat} {l : List FK} (IH : EqAtP P m) (hd : m ≤ d) (hl : flatP P m e = some l) (xs ys : List Value) : ∀ (k j : Nat) (w : World),
    fitsL (List.replicate k l).flatten (xs.drop (j * l.length)) = true → fitsL (List.replicate k l).flatten (ys.drop (j * l.length)) = true → j * l.length ≤ xs.length → j * l.length ≤ ys.length →
    (Op.eqItems d e l.length xs.toArray ys.toArray (List.range' j k)).run P w = .ok (eqCs (xs.drop (j * l.length)) (ys.drop (j * l.length))) w
  | 0, j, w, hx, hy, _, _ => by
    have e1 : xs.drop (j * l.length) = [] := List.length_eq_zero_iff.1 (fitsL_length hx)
    have e2 : ys.drop (j * l.length) = [] := List.length_eq_zero_iff.1 (fitsL_length hy)
    rw [e1, e2]; simp [Op.eqItems, eqCs]
  | k + 1, j, w, hx, hy, ox, oy => by
    rw [List.replicate_succ, List.flatten_cons] at hx hy
    have lx := fitsL_length hx
    have ly := fitsL_length hy
    simp only [List.length_drop, List.length_append] at lx ly
    obtain ⟨fx1, fx2⟩ := fitsL_append hx
    obtain ⟨fy1, fy2⟩ := fitsL_append hy
    have ej : (j + 1) * l.length = j * l.length + l.length := Nat.succ_mul _ _
    rw [List.drop_drop, ← ej] at fx2 fy2
    have ih := fun w => run_eqItems_flat IH hd hl xs ys k (j + 1) w fx2 fy2 (by omega) (by omega)
    obtain ⟨a, ra, wa⟩ := run_partP hl xs (j * l.length) (by omega)
    obtain ⟨b, rb, wb⟩ := run_partP hl ys (j * l.length) (by omega)
    have he := IH e l hl d w a b _ _ hd wa wb fx1 fy1
    rw [List.range'_succ]
    simp only [Op.eqItems, Sem.run_bind, ra, rb, he, Result.andThen_ok]
    rw [eqCs_split l.length (xs := xs.drop (j * l.length)) (ys := ys.drop (j * l.length)) (by simp; omega)]
    simp only [List.drop_drop, ← ej]
    cases hc : eqCs ((xs.drop (j * l.length)).take l.length) ((ys.drop (j * l.length)).take l.length)
    · simp
    · simp [ih]

theorem EqAtP.all {P : Program} : ∀ n, EqAtP P n := by
  intro n
  induction n using Nat.strongRecOn with
  | ind n ih =>
    intro t ks h d w x y xs ys hd wx wy fx fy
    cases n with
    | zero => simp [flatP] at h
    | succ n =>
      cases d with
      | zero => omega
      | succ d =>
        unfold flatP at h
        split at h
        · cases h
        · rename_i i hi
          split at h
          · rename_i l hl
            split at h
            · rename_i hs
              cases h
              split at hl
              · rename_i hu
                cases hl
                have ha : aggP P t = false := by simp [aggP, hu]
                unfold WholeAt at wx wy
                rw [if_neg (by simp [ha])] at wx wy
                subst wx; subst wy
                simp only [fitsL, Bool.and_true] at fx fy
                unfold fits1 at fx fy
                cases x <;> simp at fx
                cases y <;> simp at fy
                rw [run_equalIn_bool' w d t _ _ hu]; simp [eqCs, eqC]
              · rename_i k hu
                cases hl
                have ha : aggP P t = false := by simp [aggP, hu]
                unfold WholeAt at wx wy
                rw [if_neg (by simp [ha])] at wx wy
                subst wx; subst wy
                simp only [fitsL, Bool.and_true] at fx fy
                unfold fits1 at fx fy
                cases x <;> simp at fx
                cases y <;> simp at fy
                subst fx; subst fy
                rw [run_equalIn_int w d t _ _ _ _ hu]; simp [eqCs, eqC]
              · rename_i m e hu
                split at hl
                · rename_i l' hl'
                  cases hl
                  have ha : aggP P t = true := by simp [aggP, hu]
                  unfold WholeAt at wx wy
                  rw [if_pos ha] at wx wy
                  subst wx; subst wy
                  obtain ⟨ie, de, hie, hue, hse, _⟩ := flatP_info hl'
                  rw [run_equalIn_array w d _ _ hu hie]
                  have hc : P.cellsOf e = l'.length := by rw [← hse]; simp [Program.cellsOf, hie]
                  rw [hc, List.range_eq_range']
                  have := run_eqItems_flat (ih n (by omega)) (by omega : n ≤ d) hl' xs ys m 0 w (by simpa using fx) (by simpa using fy) (by simp) (by simp)
                  simpa using this
                · cases hl
              · rename_i fs hu
                split at hl
                · cases hl
                · rename_i hst
                  have ha : aggP P t = true := by simp [aggP, hu]
                  unfold WholeAt at wx wy
                  rw [if_pos ha] at wx wy
                  subst wx; subst wy
                  have hfs : P.fieldsOf t = fs := by simp [Program.fieldsOf, hu]
                  rw [run_equalIn_struct w d t _ _ (by rw [hfs]; exact hu) (by simpa using hst), hfs]
                  have := run_eqFields_flat (ih n (by omega)) (by omega : n ≤ d) xs ys fs.toList 0 _ w hl (by simp) (by simp) (by simpa using fx) (by simpa using fy)
                  simpa using this
              · cases hl
            · cases h
          · cases h
end Go.Vex
