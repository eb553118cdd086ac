/-
  VEX, part 11: a table of types is checked by computation.
-/
import Derived.Test.YtkljgpepogkgdaaDoorV10
import Derived.KernelRfl
set_option linter.unusedSimpArgs false
namespace Go.Vex
set_option linter.unusedVariables false

def zOne : SV → Value → Bool
  | .i k (.lit n), .int k' m => decide (k = k') && decide (n = m)
  | .b (.lit x), .bool y => x == y
  | .str s, .string t => s.data.toList == t.data.toList
  | .nilp, .pointer none => true
  | .nilslc, .slice none 0 0 => true
  | .nilfn, .nilFunc => true
  | .nilifc, .nilIface => true
  | .nilmap, .map none => true
  | _, _ => false
theorem zOne_sound {v : SV} {c : Value} (h : zOne v c = true) : oneC c = true ∧ Den [] v c := by
  unfold zOne at h
  split at h <;> try (simp at h; done)
  · simp only [Bool.and_eq_true, decide_eq_true_eq] at h; obtain ⟨rfl, rfl⟩ := h; exact ⟨rfl, .i rfl⟩
  · simp only [beq_iff_eq] at h; subst h; exact ⟨rfl, .b rfl⟩
  · rename_i s t
    have : s = t := by
      have := beq_iff_eq.1 h
      cases s; cases t; simp_all
    subst this; exact ⟨rfl, .str rfl⟩
  · exact ⟨rfl, .nilp rfl⟩
  · exact ⟨rfl, .nilslc rfl⟩
  · exact ⟨rfl, .nilfn rfl⟩
  · exact ⟨rfl, .nilifc rfl⟩
  · exact ⟨rfl, .nilmap rfl⟩
def okInts (k : IntKind) : List Int → List Value → Option (List Value)
  | [], cs => some cs
  | z :: zs, c :: cs => match c with
    | .int k' n => if k' = k then (if n = z then okInts k zs cs else none) else none
    | _ => none
  | _ :: _, [] => none
theorem okInts_sound {k : IntKind} : ∀ {zs : List Int} {cs ds : List Value}, okInts k zs cs = some ds → cs = zs.map (Value.int k) ++ ds
  | [], cs, ds, h => by cases h; rfl
  | z :: zs, c :: cs, ds, h => by
    unfold okInts at h
    split at h
    · split at h
      · split at h
        · rename_i e1 e2; subst e1; subst e2
          rw [okInts_sound h]; rfl
        · cases h
      · cases h
    · cases h
  | _ :: _, [], ds, h => by simp [okInts] at h
def okZ : List SV → List Value → Bool
  | [], cs => cs.isEmpty
  | .ints k (.lit m) zs :: r, cs => decide (zs.length = m) && (match okInts k zs cs with | some ds => okZ r ds | none => false)
  | v :: r, c :: cs => zOne v c && okZ r cs
  | _ :: _, [] => false
theorem okZ_sound : ∀ {l : List SV} {cs : List Value}, okZ l cs = true → DenL [] l cs := by
  intro l
  induction l with
  | nil => intro cs h; exact .nil (by simpa [okZ] using h)
  | cons v r ih =>
    intro cs h
    unfold okZ at h
    split at h
    · rename_i e; cases e
    · rename_i k m zs r' e
      cases e
      simp only [Bool.and_eq_true, decide_eq_true_eq] at h
      obtain ⟨h1, h2⟩ := h
      split at h2
      · rename_i ds hds
        exact .cons _ ds (okInts_sound hds) (.ints h1 rfl) (ih h2)
      · cases h2
    · rename_i v' r' c cs' _ e
      cases e
      simp only [Bool.and_eq_true] at h
      obtain ⟨g1, g2⟩ := zOne_sound h.1
      exact .cons [c] cs' rfl (.one c rfl g1 g2) (ih h.2)
    · cases h

def fieldsB : List (Nat × Nat) → List Field → Bool
  | [], [] => true
  | (o, t) :: r, f :: fs => decide (f.offset = o) && (decide (f.type = t) && fieldsB r fs)
  | _, _ => false
theorem fieldsB_sound : ∀ {l : List (Nat × Nat)} {fs : List Field}, fieldsB l fs = true → fs.length = l.length ∧ ∀ (j off t : Nat), l[j]? = some (off, t) → ∃ f, fs[j]? = some f ∧ f.offset = off ∧ f.type = t
  | [], [], h => ⟨rfl, fun j off t h => by simp at h⟩
  | (o, t) :: r, f :: fs, h => by
    simp only [fieldsB, Bool.and_eq_true, decide_eq_true_eq] at h
    obtain ⟨h1, h2, h3⟩ := h
    obtain ⟨g1, g2⟩ := fieldsB_sound h3
    refine ⟨by simp [g1], fun j off t' hj => ?_⟩
    cases j with
    | zero => simp at hj; obtain ⟨rfl, rfl⟩ := hj; exact ⟨f, rfl, h1, h2⟩
    | succ j => simpa using g2 j off t' (by simpa using hj)
  | [], _ :: _, h => by simp [fieldsB] at h
  | _ :: _, [], h => by simp [fieldsB] at h

def kindB : TK → TypeDesc → Bool
  | .int k, .int k' => decide (k = k')
  | .bool, .bool => true
  | .str, .string => true
  | .ptr e, .pointer e' => decide (e = e')
  | .slice e, .slice e' => decide (e = e')
  | .array n e, .array n' e' => decide (n = n') && decide (e = e')
  | .struct fs, .struct arr => fieldsB fs arr.toList
  | .map k e, .map k' e' => decide (k = k') && decide (e = e')
  | .iface, .interface _ => true
  | .func, .func _ _ _ => true
  | .other, .struct _ => false
  | .other, .array _ _ => false
  | .other, _ => true
  | _, _ => false
theorem kindB_sound {k : TK} {d : TypeDesc} (h : kindB k d = true) : kindOk k d := by
  unfold kindB at h
  split at h <;> try (simp at h; done)
  · simp only [decide_eq_true_eq] at h; subst h; rfl
  · rfl
  · rfl
  · simp only [decide_eq_true_eq] at h; subst h; rfl
  · simp only [decide_eq_true_eq] at h; subst h; rfl
  · simp only [Bool.and_eq_true, decide_eq_true_eq] at h; obtain ⟨rfl, rfl⟩ := h; rfl
  · rename_i fs arr
    obtain ⟨g1, g2⟩ := fieldsB_sound h
    exact ⟨arr, rfl, by simpa using g1, fun j off t hj => by obtain ⟨f, e1, e2⟩ := g2 j off t hj; exact ⟨f, by rw [← Array.getElem?_toList]; exact e1, e2⟩⟩
  · simp only [Bool.and_eq_true, decide_eq_true_eq] at h; obtain ⟨rfl, rfl⟩ := h; rfl
  · exact ⟨_, rfl⟩
  · exact ⟨_, _, _, rfl⟩
  · rename_i d hd1 hd2; exact ⟨fun fs e => hd1 fs e, fun n e e' => hd2 n e e'⟩

def tiB (P : Program) (t : Nat) (ti : TI) : Bool :=
  match P.info? t with
  | none => false
  | some i => match P.underlying t with
    | none => false
    | some d => match i.zero with
      | none => false
      | some z => decide (i.size = ti.size) && (decide (i.bytes = ti.bytes) && (okZ ti.zero z.cells.toList && (kindB ti.kind d && (ti.flat.isEmpty || (flatP P 9 t == some ti.flat && !P.eqGuardType P.depth t)))))
theorem tiB_sound {P : Program} {t : Nat} {ti : TI} (h : tiB P t ti = true) : TIok P t ti := by
  unfold tiB at h
  split at h
  · cases h
  · rename_i i hi
    split at h
    · cases h
    · rename_i d hd
      split at h
      · cases h
      · rename_i z hz
        simp only [Bool.and_eq_true, decide_eq_true_eq] at h
        obtain ⟨h1, h2, h3, h4, h5⟩ := h
        refine ⟨i, d, z, hi, hd, h1, h2, hz, okZ_sound h3, kindB_sound h4, fun hne => ?_⟩
        simp only [Bool.or_eq_true, Bool.and_eq_true, List.isEmpty_iff, beq_iff_eq, Bool.not_eq_true'] at h5
        rcases h5 with h5 | h5
        · exact absurd h5 hne
        · exact h5
def Tree.allB (P : Program) : Tree → Bool
  | .leaf => true
  | .node k v l r => tiB P k v && (l.allB P && r.allB P)
theorem Tree.allB_sound {P : Program} : ∀ {T : Tree}, T.allB P = true → T.All P
  | .leaf, _ => trivial
  | .node k v l r, h => by
    simp only [Tree.allB, Bool.and_eq_true] at h
    exact ⟨tiB_sound h.1, Tree.allB_sound h.2.1, Tree.allB_sound h.2.2⟩
theorem TOk.of_allB {P : Program} {T : Tree} (h : T.allB P = true) : TOk P T := (Tree.allB_sound h).ok

theorem MOk.nil (P : Program) : MOk P [] := fun t n f h => by simp [findM] at h
theorem MOk.cons {P : Program} {M : MT} {t : Nat} {n : String} {f : Nat} (h : MOk P M)
    (h1 : ∀ a w, (nilAhead (P.types.size + Made.depth) t (.pointer (some a)) n).run P w = .ok (some false) w)
    (h2 : ∀ a w, (method (P.types.size + Made.depth) t (.pointer (some a)) n).run P w = .ok (f, .pointer (some a)) w) : MOk P ((t, n, f) :: M) := by
  intro t' n' f' hf
  unfold findM at hf
  split at hf
  · rename_i e1
    split at hf
    · rename_i e2; subst e1; subst e2; cases hf; exact ⟨h1, h2⟩
    · exact h t' n' f' hf
  · exact h t' n' f' hf
end Go.Vex
