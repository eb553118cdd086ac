/-
  VEX, appends.
-/
import Derived.Test.YtkljgpepogkgdaaDoorV8
import Derived.Laws.Append
import Derived.Laws.AppendOwn
set_option linter.unusedSimpArgs false
namespace Go.Vex
set_option linter.unusedVariables false
noncomputable section

/-! ### Resources that go, and that move -/
theorem HSatO.move {ρ : Rho} {ω : List Own} {hp : List Blk} {w : World} (h : HSatO ρ ω hp w) {X : Nat} {r : Option (Nat × Nat)} {k : Blk} (hx : ρ[X]? = some r) (hk : hp[X]? = some k) :
    HSat (ρ ++ [r]) (hp.set X .gone ++ [k]) w := by
  have hlt : X < ρ.length := (List.getElem?_eq_some_iff.1 hx).1
  obtain ⟨o, ho⟩ : ∃ o, ω[X]? = some o := ⟨ω[X]'(by rw [h.lenω]; exact hlt), by simp⟩
  have hX : (ω.set X ⟨[], []⟩)[X]? = some ⟨[], []⟩ := List.getElem?_set_self (by rw [h.lenω]; exact hlt)
  have hne : ∀ y, y ≠ X → (ω.set X ⟨[], []⟩)[y]? = ω[y]? := fun y hy => List.getElem?_set_ne (Ne.symm hy)
  refine ⟨ω.set X ⟨[], []⟩ ++ [o], by simp [h.lenω], by simp [h.lenh], ?_, ?_, ?_⟩
  · intro y a o' k' h1 h2 h3
    rcases getElem?_snoc _ _ _ _ h1 with ⟨hy, h1'⟩ | ⟨hy, h1'⟩
    · rcases getElem?_snoc _ _ _ _ h2 with ⟨_, h2'⟩ | ⟨hy2, _⟩
      · rcases getElem?_snoc _ _ _ _ h3 with ⟨_, h3'⟩ | ⟨hy3, _⟩
        · by_cases e : y = X
          · subst e
            rw [hX] at h2'; cases h2'
            rw [List.getElem?_set_self (by rw [h.lenh]; exact hlt)] at h3'; cases h3'
            rfl
          · rw [hne y e] at h2'
            rw [List.getElem?_set_ne (Ne.symm e)] at h3'
            exact (h.sat y a o' k' h1' h2' h3').mono (Ext.push _ _)
        · exact absurd hy3 (by simp [h.lenh]; omega)
      · exact absurd hy2 (by simp [h.lenω]; omega)
    · subst h1'
      rcases getElem?_snoc _ _ _ _ h2 with ⟨hy2, _⟩ | ⟨_, h2'⟩
      · exact absurd hy2 (by simp [h.lenω]; omega)
      · rcases getElem?_snoc _ _ _ _ h3 with ⟨hy3, _⟩ | ⟨_, h3'⟩
        · exact absurd hy3 (by simp [h.lenh]; omega)
        · subst h2'; subst h3'
          exact (h.sat X _ _ _ hx ho hk).mono (Ext.push _ _)
  · intro x y ox oy hx' hy' b hb
    rcases getElem?_snoc _ _ _ _ hx' with ⟨lx, hx2⟩ | ⟨ex, hx2⟩
    · by_cases e : x = X
      · subst e; rw [hX] at hx2; cases hx2; simp at hb
      · rw [hne x e] at hx2
        rcases getElem?_snoc _ _ _ _ hy' with ⟨ly, hy2⟩ | ⟨ey, hy2⟩
        · by_cases e' : y = X
          · subst e'; rw [hX] at hy2; cases hy2; simp
          · rw [hne y e'] at hy2; exact h.dis x y ox oy hx2 hy2 b hb
        · rw [hy2]
          have := h.dis x X ox o hx2 ho b hb
          exact ⟨fun hb' => absurd (this.1 hb') e, this.2⟩
    · rw [hx2] at hb
      rcases getElem?_snoc _ _ _ _ hy' with ⟨ly, hy2⟩ | ⟨ey, hy2⟩
      · by_cases e' : y = X
        · subst e'; rw [hX] at hy2; cases hy2; simp
        · rw [hne y e'] at hy2
          have := h.dis X y o oy ho hy2 b hb
          exact ⟨fun hb' => absurd (this.1 hb').symm e', this.2⟩
      · rw [hy2]
        have := h.dis X X o o ho ho b hb
        exact ⟨fun _ => by omega, this.2⟩
  · intro x ox hx' b hb
    rcases getElem?_snoc _ _ _ _ hx' with ⟨lx, hx2⟩ | ⟨ex, hx2⟩
    · by_cases e : x = X
      · subst e; rw [hX] at hx2; cases hx2; simp at hb
      · rw [hne x e] at hx2; exact h.bnd x ox hx2 b hb
    · rw [hx2] at hb; exact h.bnd X o ho b hb
theorem HSat.move {ρ : Rho} {hp : List Blk} {w : World} (h : HSat ρ hp w) {X : Nat} {r : Option (Nat × Nat)} {k : Blk} (hx : ρ[X]? = some r) (hk : hp[X]? = some k) :
    HSat (ρ ++ [r]) (hp.set X .gone ++ [k]) w := let ⟨ω, h⟩ := h; h.move hx hk

theorem HSat.drop {ρ : Rho} {hp : List Blk} {w : World} (h : HSat ρ hp w) (X : Nat) : HSat ρ (hp.set X .gone) w := by
  obtain ⟨ω, h⟩ := h
  rcases Nat.lt_or_ge X hp.length with hlt | hge
  · have hX : (ω.set X ⟨[], []⟩)[X]? = some ⟨[], []⟩ := List.getElem?_set_self (by rw [h.lenω, ← h.lenh]; exact hlt)
    have hne : ∀ y, y ≠ X → (ω.set X ⟨[], []⟩)[y]? = ω[y]? := fun y hy => List.getElem?_set_ne (Ne.symm hy)
    refine ⟨ω.set X ⟨[], []⟩, by simp [h.lenω], by simp [h.lenh], ?_, ?_, ?_⟩
    · intro y a o' k' h1 h2 h3
      by_cases e : y = X
      · subst e
        rw [hX] at h2; cases h2
        rw [List.getElem?_set_self hlt] at h3; cases h3
        rfl
      · rw [hne y e] at h2
        rw [List.getElem?_set_ne (Ne.symm e)] at h3
        exact h.sat y a o' k' h1 h2 h3
    · intro x y ox oy hx' hy' b hb
      by_cases e : x = X
      · subst e; rw [hX] at hx'; cases hx'; simp at hb
      · rw [hne x e] at hx'
        by_cases e' : y = X
        · subst e'; rw [hX] at hy'; cases hy'; simp
        · rw [hne y e'] at hy'; exact h.dis x y ox oy hx' hy' b hb
    · intro x ox hx' b hb
      by_cases e : x = X
      · subst e; rw [hX] at hx'; cases hx'; simp at hb
      · rw [hne x e] at hx'; exact h.bnd x ox hx' b hb
  · rw [List.set_eq_of_length_le hge]; exact ⟨ω, h⟩

/-- A resource that is nothing: a nil slice's. -/
theorem HSat.newNil {ρ : Rho} {hp : List Blk} {w : World} (h : HSat ρ hp w) {T : TypeId} {l : List SV} (hd : DenL ρ l []) : HSat (ρ ++ [none]) (hp ++ [.cells T l]) w := by
  obtain ⟨ω, h⟩ := h
  refine ⟨ω ++ [⟨[], []⟩], by simp [h.lenω], by simp [h.lenh], ?_, ?_, ?_⟩
  · intro y a o' k' h1 h2 h3
    rcases getElem?_snoc _ _ _ _ h1 with ⟨hy, h1'⟩ | ⟨hy, h1'⟩
    · rcases getElem?_snoc _ _ _ _ h2 with ⟨_, h2'⟩ | ⟨hy2, _⟩
      · rcases getElem?_snoc _ _ _ _ h3 with ⟨_, h3'⟩ | ⟨hy3, _⟩
        · exact (h.sat y a o' k' h1' h2' h3').mono (Ext.push _ _)
        · exact absurd hy3 (by rw [h.lenh]; omega)
      · exact absurd hy2 (by rw [h.lenω]; omega)
    · subst h1'
      rcases getElem?_snoc _ _ _ _ h2 with ⟨hy2, _⟩ | ⟨_, h2'⟩
      · exact absurd hy2 (by rw [h.lenω]; omega)
      · rcases getElem?_snoc _ _ _ _ h3 with ⟨hy3, _⟩ | ⟨_, h3'⟩
        · exact absurd hy3 (by rw [h.lenh]; omega)
        · subst h2'; subst h3'
          exact ⟨[], hd.mono (Ext.push _ _), .inl ⟨rfl, rfl, rfl⟩⟩
  · intro x y ox oy hx' hy' b hb
    rcases getElem?_snoc _ _ _ _ hx' with ⟨lx, hx'⟩ | ⟨ex, hx'⟩
    · rcases getElem?_snoc _ _ _ _ hy' with ⟨ly, hy'⟩ | ⟨ey, hy'⟩
      · exact h.dis x y ox oy hx' hy' b hb
      · subst hy'; simp
    · subst hx'; simp at hb
  · intro x ox hx' b hb
    rcases getElem?_snoc _ _ _ _ hx' with ⟨lx, hx'⟩ | ⟨ex, hx'⟩
    · exact h.bnd x ox hx' b hb
    · subst hx'; simp at hb

/-! ### Rows of elements -/
inductive Cont where
  | none
  | ints (k : IntKind) (m : S Nat) (zs : List Int)
  | rows (m : S Nat) (f : Nat → List SV)
def Cont.list (w : Nat) : Cont → List SV
  | .none => []
  | .ints k m zs => [.ints k m zs]
  | .rows m f => [.rows w m f]
def Cont.len : Cont → S Nat
  | .none => .lit 0
  | .ints _ m _ => m
  | .rows m _ => m
/-- w: how many cells an element has. -/
def Cont.ok (w : Nat) : Cont → Prop
  | .ints .. => w = 1
  | _ => True
theorem Cont.size {w : Nat} {c : Cont} (h : c.ok w) {ρ : Rho} {cs : List Value} (hd : DenL ρ (c.list w) cs) : cs.length = c.len.val * w := by
  cases c with
  | none => rw [Cont.list] at hd; rw [hd.of_nil]; simp [Cont.len]
  | ints k m zs =>
    obtain ⟨c1, c2, rfl, h1, h2⟩ := hd.of_cons
    rw [h2.of_nil]
    obtain ⟨e1, rfl⟩ := h1.of_ints
    have : w = 1 := h
    subst this
    simp [Cont.len, e1]
  | rows m f =>
    obtain ⟨c1, c2, rfl, h1, h2⟩ := hd.of_cons
    rw [h2.of_nil]
    have := h1.of_rows.1
    simpa [Cont.len] using this

def joinC (a b : Cont) (K : Cont → Prop) : Prop :=
  match a with
  | .none => K b
  | .ints k m zs => match b with
    | .none => K a
    | .ints k' n ys => if k = k' then K (.ints k (sAddN m n) (appI zs ys)) else False
    | .rows .. => False
  | .rows m f => match b with
    | .none => K a
    | .rows n g => K (.rows (sAddN m n) (jn f g m.val))
    | .ints .. => False

theorem joinC_sound {w : Nat} {a b : Cont} {K : Cont → Prop} (h : joinC a b K) (ha : a.ok w) (hb : b.ok w) {ρ : Rho} {xs ys : List Value} (hx : DenL ρ (a.list w) xs) (hy : DenL ρ (b.list w) ys) :
    ∃ c, c.ok w ∧ c.len.val = a.len.val + b.len.val ∧ DenL ρ (c.list w) (xs ++ ys) ∧ K c := by
  cases a with
  | none => rw [Cont.list] at hx; rw [hx.of_nil]; exact ⟨b, hb, by simp [Cont.len], hy, h⟩
  | ints k m zs =>
    cases b with
    | none => rw [Cont.list] at hy; rw [hy.of_nil]; exact ⟨_, ha, by simp [Cont.len], by simpa using hx, h⟩
    | ints k' n us =>
      unfold joinC at h
      simp only at h
      split at h
      · rename_i e; subst e
        refine ⟨.ints k (sAddN m n) (appI zs us), ha, by simp [Cont.len, sAddN_val], ?_, h⟩
        obtain ⟨c1, c2, rfl, h1, h2⟩ := hx.of_cons
        obtain ⟨d1, d2, rfl, h3, h4⟩ := hy.of_cons
        rw [h2.of_nil, h4.of_nil]
        obtain ⟨e1, rfl⟩ := h1.of_ints
        obtain ⟨e2, rfl⟩ := h3.of_ints
        refine .cons _ [] (List.append_nil _).symm (.ints ?_ ?_) (.nil rfl)
        · rw [appI_eq, sAddN_val]; simp [e1, e2]
        · rw [appI_eq]; simp
      · exact h.elim
    | rows => exact h.elim
  | rows m f =>
    cases b with
    | none => rw [Cont.list] at hy; rw [hy.of_nil]; exact ⟨_, ha, by simp [Cont.len], by simpa using hx, h⟩
    | ints => exact h.elim
    | rows n g =>
      refine ⟨.rows (sAddN m n) (jn f g m.val), trivial, by simp [Cont.len, sAddN_val], ?_, h⟩
      obtain ⟨c1, c2, rfl, h1, h2⟩ := hx.of_cons
      obtain ⟨d1, d2, rfl, h3, h4⟩ := hy.of_cons
      rw [h2.of_nil, h4.of_nil]
      obtain ⟨e1, r1⟩ := h1.of_rows
      obtain ⟨e2, r2⟩ := h3.of_rows
      refine .cons _ [] (List.append_nil _).symm (.rows ?_ fun j hj => ?_) (.nil rfl)
      · simp [e1, e2, sAddN_val, Nat.add_mul]
      · simp only [List.append_nil]
        rw [jn_eq]
        simp only
        rw [sAddN_val] at hj
        split
        · rename_i hlt
          have := r1 j hlt
          have hle : (j + 1) * w ≤ m.val * w := Nat.mul_le_mul_right _ hlt
          rw [Nat.add_mul] at hle
          rw [List.drop_append_of_le_length (by omega), List.take_append_of_le_length (by simp; omega)]
          exact this
        · rename_i hge
          have := r2 (j - m.val) (by omega)
          have e3 : j * w = c1.length + (j - m.val) * w := by rw [e1, ← Nat.add_mul]; congr 1; omega
          rw [e3, List.drop_append, List.drop_eq_nil_of_le (by omega), List.nil_append]
          rw [show c1.length + (j - m.val) * w - c1.length = (j - m.val) * w by omega]
          exact this

theorem HSat.readsNil {ρ : Rho} {hp : List Blk} {w : World} (h : HSat ρ hp w) {x : Nat} {k : Blk} {l : List SV}
    (hx : ρ[x]? = some none) (hk : hp[x]? = some k) (hl : blkCells k = some l) : DenL ρ l [] := by
  obtain ⟨ω, h⟩ := h
  have hlt : x < ρ.length := (List.getElem?_eq_some_iff.1 hx).1
  obtain ⟨o, ho⟩ : ∃ o, ω[x]? = some o := ⟨ω[x]'(by rw [h.lenω]; exact hlt), by simp⟩
  have hs := h.sat x _ o k hx ho hk
  cases k <;> simp only [blkCells, Option.some.injEq, reduceCtorEq] at hl
  case cells T l' =>
    subst hl
    obtain ⟨cs, e4, ⟨e, _⟩ | ⟨b', e1, e2, e3⟩⟩ := hs
    · subst e; exact e4
    · cases e1
  case ro l' =>
    subst hl
    obtain ⟨cs, e1, e2⟩ := hs
    rcases e2 with ⟨rfl, _⟩ | ⟨b', o', e2, rfl, e4⟩
    · exact e1
    · cases e2
  case glob g l' =>
    subst hl
    obtain ⟨cs, arr, T, fz, e1, e2, rfl, e4, e5⟩ := hs
    cases e2

/-- What is appended: its elements can be read. -/
structure Src (w : Nat) (c : Cont) (v : Value) (ys : List Value) (x : World) : Prop where
  out : (v = .slice none 0 0 ∧ ys = [] ∧ c.len.val = 0) ∨ ∃ b off cp, v = .slice (some ⟨b, off, none⟩) c.len.val cp ∧ ∀ (j : Nat) (u : Value), ys[j]? = some u → x.cell? ⟨b, off + j, none⟩ = some u

def allSingle : List SV → Bool
  | [] => true
  | v :: r => single v && allSingle r

def srcS (w : Nat) (hp : List Blk) (y : SV) (K : Cont → Prop) : Prop :=
  match y with
  | .nilslc => K .none
  | .slc Y l w' o n cap => if w' = w then (match hp[Y]? with
    | none => False
    | some k => match blkCells k with
      | none => False
      | some L => match o with
        | .ex _ => False
        | .lit o => match L with
          | .ints k' m zs :: _ => if w = 1 then (if l = 0 then (if o = 0 then eqN n.val m.val ∧ K (.ints k' n zs) else False) else False) else False
          | .rows w2 m f :: _ => if w2 = w then (if l = 0 then (if o = 0 then eqN n.val m.val ∧ K (.rows n f) else False) else False) else False
          | L => match n with
            | .ex _ => False
            | .lit n => match cut L (l + o * w) (n * w) with
              | none => False
              | some L' => if n = 1 then (match L' with
                  | [.i k' z] => if w = 1 then K (.ints k' (.lit 1) [z.val]) else K (.rows (.lit 1) fun _ => L')
                  | _ => K (.rows (.lit 1) fun _ => L')) else False) else False
  | _ => False

theorem denL_one_row {ρ : Rho} {L : List SV} {cs : List Value} {w : Nat} (h : DenL ρ L cs) (hl : cs.length = w) : DenL ρ [.rows w (.lit 1) fun _ => L] cs :=
  .cons cs [] (by simp) (.rows (by simpa using hl) fun j hj => by
    have : j = 0 := by simp at hj; omega
    subst this
    simp only [Nat.zero_mul, List.drop_zero]
    rw [List.take_of_length_le (by omega)]; exact h) (.nil rfl)

theorem srcS_sound {w : Nat} {hp : List Blk} {ρ : Rho} {x : World} (h : HSat ρ hp x) {y : SV} {v : Value} {K : Cont → Prop} (hv : Den ρ y v) (hK : srcS w hp y K) :
    ∃ c ys, c.ok w ∧ DenL ρ (c.list w) ys ∧ Src w c v ys x ∧ K c := by
  unfold srcS at hK
  split at hK
  · cases hv with | nilslc hv => exact ⟨.none, [], trivial, .nil rfl, ⟨.inl ⟨hv, rfl, rfl⟩⟩, hK⟩
  · rename_i Y l w' o n cap
    split at hK
    · rename_i e; subst e
      split at hK
      · exact hK.elim
      · rename_i k hk
        split at hK
        · exact hK.elim
        · rename_i L hL
          split at hK
          · exact hK.elim
          · rename_i o
            cases hv with
            | slc r hx hn hv =>
              -- what can be read of it
              have rd : ∀ (b o0 : Nat), r = some (b, o0) → ∃ cs, DenL ρ L cs ∧ ∀ j c, cs[j]? = some c → x.cell? ⟨b, o0 + j, none⟩ = some c := by
                intro b o0 e; subst e
                obtain ⟨ω, h⟩ := h
                exact h.reads hx hk hL
              have whole : ∀ (c : Cont), (∀ cs, DenL ρ L cs → ∃ c1 c2, cs = c1 ++ c2 ∧ DenL ρ (c.list w') c1) → c.ok w' → c.len = n → l = 0 → o = 0 → K c → ∃ c ys, c.ok w' ∧ DenL ρ (c.list w') ys ∧ Src w' c v ys x ∧ K c := by
                intro c hden hok hlen el eo hK
                cases r with
                | none =>
                  obtain ⟨c1, c2, e, h1⟩ := hden [] (h.readsNil hx hk hL)
                  have : c1 = [] := by simp at e; exact e.1
                  subst this
                  refine ⟨c, [], hok, h1, ⟨.inl ⟨?_, rfl, by rw [hlen]; exact (hn rfl).1⟩⟩, hK⟩
                  rw [hv, (hn rfl).1, (hn rfl).2]; rfl
                | some bo =>
                  obtain ⟨b, o0⟩ := bo
                  obtain ⟨cs, h1, h2⟩ := rd b o0 rfl
                  obtain ⟨c1, c2, rfl, h3⟩ := hden cs h1
                  refine ⟨c, c1, hok, h3, ⟨.inr ⟨b, o0, cap.val, ?_, fun j u hu => h2 j u ?_⟩⟩, hK⟩
                  · rw [hv, hlen]; subst el; subst eo; simp
                  · rw [List.getElem?_append_left (List.getElem?_eq_some_iff.1 hu).1]; exact hu
              split at hK
              · rename_i k' m zs tl
                split at hK
                · rename_i ew
                  split at hK
                  · rename_i el
                    split at hK
                    · rename_i eo
                      obtain ⟨e1, hK⟩ := hK
                      rw [eqN_eq] at e1
                      refine whole (.ints k' n zs) (fun cs hd => ?_) ew rfl el eo hK
                      obtain ⟨c1, c2, rfl, h1, h2⟩ := hd.of_cons
                      obtain ⟨g1, g2⟩ := h1.of_ints
                      exact ⟨c1, c2, rfl, .cons c1 [] (by simp) (.ints (by rw [g1, e1]) g2) (.nil rfl)⟩
                    · exact hK.elim
                  · exact hK.elim
                · exact hK.elim
              · rename_i w2 m f tl
                split at hK
                · rename_i ew
                  subst ew
                  split at hK
                  · rename_i el
                    split at hK
                    · rename_i eo
                      obtain ⟨e1, hK⟩ := hK
                      rw [eqN_eq] at e1
                      refine whole (.rows n f) (fun cs hd => ?_) trivial rfl el eo hK
                      obtain ⟨c1, c2, rfl, h1, h2⟩ := hd.of_cons
                      obtain ⟨g1, g2⟩ := h1.of_rows
                      exact ⟨c1, c2, rfl, .cons c1 [] (by simp) (.rows (by rw [g1, e1]) (by rw [e1]; exact g2)) (.nil rfl)⟩
                    · exact hK.elim
                  · exact hK.elim
                · exact hK.elim
              · split at hK
                · exact hK.elim
                · rename_i n
                  split at hK
                  · exact hK.elim
                  · rename_i L' hcut
                    split at hK
                    · rename_i en
                      subst en
                      have one : ∀ (c : Cont), (∀ cs, DenL ρ L' cs → cs.length = w' → DenL ρ (c.list w') cs) → c.ok w' → c.len = .lit 1 → K c → ∃ c ys, c.ok w' ∧ DenL ρ (c.list w') ys ∧ Src w' c v ys x ∧ K c := by
                        intro c hden hok hlen hK
                        cases r with
                        | none => have := (hn rfl).1; simp at this
                        | some bo =>
                          obtain ⟨b, o0⟩ := bo
                          obtain ⟨cs, h1, h2⟩ := rd b o0 rfl
                          obtain ⟨h3, h4⟩ := cut_sound h1 hcut
                          refine ⟨c, _, hok, hden _ h3 (by simp; omega), ⟨.inr ⟨b, o0 + (l + o * w'), cap.val, ?_, fun j u hu => ?_⟩⟩, hK⟩
                          · rw [hv, hlen]; simp
                          · have hj := (List.getElem?_eq_some_iff.1 hu).1
                            simp at hj
                            rw [drop_take_get _ _ _ _ (by omega)] at hu
                            rw [Nat.add_assoc]; exact h2 _ u hu
                      split at hK
                      · rename_i k' z
                        split at hK
                        · rename_i ew
                          refine one (.ints k' (.lit 1) [z.val]) (fun cs hd hl => ?_) ew rfl hK
                          obtain ⟨c1, c2, rfl, h1, h2⟩ := hd.of_cons
                          obtain ⟨c, rfl, _, h3⟩ := h1.single rfl
                          rw [h2.of_nil]
                          cases h3 with
                          | i h3 => subst h3; exact .cons _ [] rfl (.ints (by simp) (by simp)) (.nil rfl)
                        · exact one (.rows (.lit 1) fun _ => [.i k' z]) (fun cs hd hl => denL_one_row hd hl) trivial rfl hK
                      · exact one (.rows (.lit 1) fun _ => L') (fun cs hd hl => denL_one_row hd hl) trivial rfl hK
                    · exact hK.elim
    · exact hK.elim
  · exact hK.elim

/-- What is appended to. -/
inductive Dst (w e : Nat) (ρ : Rho) (hp : List Blk) (X : Option Nat) (c : Cont) (len cap : Nat) (u : Value) (xs : List Value) (x : World) : Prop
  | nil (h : u = .slice none 0 0) (hx : xs = []) (hl : len = 0) (hc : cap = 0)
  | row (X0 b : Nat) (L : List SV) (js : List Value) (hX : X = some X0) (hr : ρ[X0]? = some (some (b, 0))) (hk : hp[X0]? = some (.cells e L)) (h : u = .slice (some ⟨b, 0, none⟩) len cap)
      (hb : x.heap[b]? = some (.cells (xs ++ js).toArray e (0, 0))) (hxs : xs.length = len * w) (hjs : js.length = (cap - len) * w) (hlc : len ≤ cap) (ho : ∀ j ∈ js, oneC j = true)

def dstS (w e : Nat) (hp : List Blk) (y : SV) (K : Option Nat → Cont → S Nat → S Nat → Prop) : Prop :=
  match y with
  | .nilslc => K none .none (.lit 0) (.lit 0)
  | .slc X l w' o len cap => if w' = w then (if l = 0 then (match o with
    | .ex _ => False
    | .lit o => if o = 0 then (match hp[X]? with
      | some (.cells T L) => if T = e then (match L with
        | [.ints k m zs, .junk wj mj] => if w = 1 then (if wj = 1 then eqN m.val len.val ∧ eqN (addN m.val mj.val) cap.val ∧ K (some X) (.ints k len zs) len cap else False) else False
        | [.rows w2 m f, .junk wj mj] => if w2 = w then (if wj = w then eqN m.val len.val ∧ eqN (addN m.val mj.val) cap.val ∧ K (some X) (.rows len f) len cap else False) else False
        | [.junk wj mj] => if wj = w then eqN 0 len.val ∧ eqN mj.val cap.val ∧ K (some X) .none len cap else False
        | _ => False) else False
      | _ => False) else False) else False) else False
  | _ => False

theorem dstS_sound {w e : Nat} {hp : List Blk} {ρ : Rho} {x : World} (h : HSat ρ hp x) {y : SV} {u : Value} {K : Option Nat → Cont → S Nat → S Nat → Prop} (hv : Den ρ y u) (hK : dstS w e hp y K) :
    ∃ X c len cap xs, c.ok w ∧ DenL ρ (c.list w) xs ∧ c.len.val = len.val ∧ Dst w e ρ hp X c len.val cap.val u xs x ∧ K X c len cap := by
  unfold dstS at hK
  split at hK
  · cases hv with | nilslc hv => exact ⟨none, .none, .lit 0, .lit 0, [], trivial, .nil rfl, rfl, .nil hv rfl rfl rfl, hK⟩
  · rename_i X l w' o len cap
    split at hK
    · rename_i e1; subst e1
      split at hK
      · rename_i e2; subst e2
        split at hK
        · exact hK.elim
        · rename_i o
          split at hK
          · rename_i e3; subst e3
            split at hK
            · rename_i T L hk
              split at hK
              · rename_i e4; subst e4
                have key : ∀ (c : Cont) (mj : S Nat), c.ok w' → c.len.val = len.val → (∀ cs, DenL ρ L cs → ∃ xs js, cs = xs ++ js ∧ DenL ρ (c.list w') xs ∧ js.length = mj.val * w' ∧ ∀ j ∈ js, oneC j = true) → len.val + mj.val = cap.val →
                    K (some X) c len cap → ∃ X c len cap xs, c.ok w' ∧ DenL ρ (c.list w') xs ∧ c.len.val = len.val ∧ Dst w' T ρ hp X c len.val cap.val u xs x ∧ K X c len cap := by
                  intro c mj hok hlen hden hcap hK
                  cases hv with
                  | slc r hx hn hv =>
                    cases r with
                    | none =>
                      obtain ⟨xs, js, e5, h1, h2, h3⟩ := hden [] (h.readsNil hx hk rfl)
                      have e6 : xs = [] := by simp at e5; exact e5.1
                      subst e6
                      refine ⟨some X, c, len, cap, [], hok, h1, hlen, .nil ?_ rfl (hn rfl).1 (hn rfl).2, hK⟩
                      rw [hv, (hn rfl).1, (hn rfl).2]; rfl
                    | some bo =>
                      obtain ⟨b, o0⟩ := bo
                      obtain ⟨cs, rfl, g1, g2, g3⟩ := h.cellsAt hx hk
                      obtain ⟨xs, js, rfl, h1, h2, h3⟩ := hden cs g2
                      have hxs : xs.length = len.val * w' := by rw [Cont.size hok h1, hlen]
                      refine ⟨some X, c, len, cap, xs, hok, h1, hlen, .row X b L js rfl hx hk ?_ g1 hxs ?_ (by omega) h3, hK⟩
                      · rw [hv]; simp
                      · rw [h2]; congr 1; omega
                split at hK
                · rename_i k m zs wj mj
                  split at hK
                  · rename_i ew
                    split at hK
                    · rename_i ew'
                      obtain ⟨e5, e6, hK⟩ := hK
                      rw [eqN_eq] at e5 e6
                      rw [addN_eq] at e6
                      refine key (.ints k len zs) mj ew rfl (fun cs hd => ?_) (by omega) hK
                      obtain ⟨c1, c2, rfl, h1, h2⟩ := hd.of_cons
                      obtain ⟨d1, d2, rfl, h3, h4⟩ := h2.of_cons
                      obtain ⟨g1, g2⟩ := h1.of_ints
                      obtain ⟨g3, g4⟩ := h3.of_junk
                      rw [h4.of_nil]
                      exact ⟨c1, d1, by simp, .cons c1 [] (by simp) (.ints (by rw [g1, e5]) g2) (.nil rfl), by rw [g3, ew, ew'], g4⟩
                    · exact hK.elim
                  · exact hK.elim
                · rename_i w2 m f wj mj
                  split at hK
                  · rename_i ew
                    split at hK
                    · rename_i ew'
                      obtain ⟨e5, e6, hK⟩ := hK
                      rw [eqN_eq] at e5 e6
                      rw [addN_eq] at e6
                      subst ew
                      refine key (.rows len f) mj trivial rfl (fun cs hd => ?_) (by omega) hK
                      obtain ⟨c1, c2, rfl, h1, h2⟩ := hd.of_cons
                      obtain ⟨d1, d2, rfl, h3, h4⟩ := h2.of_cons
                      obtain ⟨g1, g2⟩ := h1.of_rows
                      obtain ⟨g3, g4⟩ := h3.of_junk
                      rw [h4.of_nil]
                      exact ⟨c1, d1, by simp, .cons c1 [] (by simp) (.rows (by rw [g1, e5]) (by rw [← e5]; exact g2)) (.nil rfl), by rw [g3, ew'], g4⟩
                    · exact hK.elim
                  · exact hK.elim
                · rename_i wj mj
                  split at hK
                  · rename_i ew'
                    obtain ⟨e5, e6, hK⟩ := hK
                    rw [eqN_eq] at e5 e6
                    refine key .none mj trivial e5 (fun cs hd => ?_) (by omega) hK
                    obtain ⟨d1, d2, rfl, h3, h4⟩ := hd.of_cons
                    obtain ⟨g3, g4⟩ := h3.of_junk
                    rw [h4.of_nil]
                    exact ⟨[], d1, by simp, .nil rfl, by rw [g3, ew'], g4⟩
                  · exact hK.elim
                · exact hK.elim
              · exact hK.elim
            · exact hK.elim
          · exact hK.elim
      · exact hK.elim
    · exact hK.elim
  · exact hK.elim

def dropX (hp : List Blk) : Option Nat → List Blk
  | none => hp
  | some X => hp.set X .gone

def appendS (T : Tree) (t : Nat) (x y : SV) (hp : List Blk) (K : SV → List Blk → Prop) : Prop :=
  match T.find t with
  | none => False
  | some ti => match ti.kind with
    | .slice e => match T.find e with
      | none => False
      | some te => if sizeL te.zero = some te.size then (srcS te.size hp y fun c2 => dstS te.size e hp x fun X c1 len cap =>
          apOk (sAddN len c2.len).val te.bytes ∧ joinC c1 c2 fun c => AllN (sAddN len c2.len).val fun cap' =>
            K (.slc hp.length 0 te.size (.lit 0) (sAddN len c2.len) (.ex cap')) (dropX hp X ++ [.cells e (c.list te.size ++ [.junk te.size (.ex (subN cap' (sAddN len c2.len).val))])])) else False
    | _ => False

theorem zeroCells_ones {ρ : Rho} {l : List SV} {z : Array Value} (hd : DenL ρ l z.toList) (n : Nat) : ∀ c ∈ (Builtin.zeroCells z n).toList, oneC c = true := by
  intro c hc
  simp only [Builtin.zeroCells, Array.toList_map, Array.toList_range, List.mem_map, List.mem_range] at hc
  obtain ⟨i, hi, rfl⟩ := hc
  have hpos : 0 < z.size := by
    rcases Nat.eq_zero_or_pos z.size with h | h
    · rw [h] at hi; simp at hi
    · exact h
  have hlt : i % z.size < z.size := Nat.mod_lt _ hpos
  rw [getElem!_pos z _ hlt]
  exact hd.ones_mem _ (by simp)

theorem grownCap_ge (w : World) (need old : Nat) (e : TypeId) (h : need ≤ 140737488355328) : need ≤ grownCap w need old e := by
  simp only [grownCap, Question.cut]
  omega
theorem drew_drewN (x : World) (n : Nat) (o : Obj) : (x.drewN n).drew.alloc o = (x.drew.alloc o).drewN n := by
  unfold World.drewN World.drew World.alloc
  congr 1
  simp only
  omega

theorem putB_same {w : World} {b : Nat} {o : Obj} (h : w.heap[b]? = some o) : putB w b o = w := by
  unfold putB
  have e : w.heap.setIfInBounds b o = w.heap := by
    apply Array.ext_getElem?
    intro i
    rw [Array.getElem?_setIfInBounds]
    split
    · rename_i e; subst e; rw [if_pos (Array.getElem?_eq_some_iff.1 h).1, h]
    · rfl
  rw [e]
theorem stored_drewN (b off : Nat) (vs : List Value) (x : World) (n : Nat) : stored b off vs (x.drewN n) = (stored b off vs x).drewN n := by
  unfold stored
  rw [World.heap_drewN]
  cases h : x.heap[b]? with
  | none => rfl
  | some o => cases o <;> rfl
theorem HSat.dropX {ρ : Rho} {hp : List Blk} {w : World} (h : HSat ρ hp w) (X : Option Nat) : HSat ρ (Vex.dropX hp X) w := by
  cases X with
  | none => exact h
  | some X => exact h.drop X
theorem dropX_length (hp : List Blk) (X : Option Nat) : (Vex.dropX hp X).length = hp.length := by cases X <;> simp [Vex.dropX]

theorem list_junk {w : Nat} {c : Cont} {ρ : Rho} {cs js : List Value} {n : S Nat} (hc : DenL ρ (c.list w) cs) (hj : js.length = n.val * w) (ho : ∀ j ∈ js, oneC j = true) : DenL ρ (c.list w ++ [.junk w n]) (cs ++ js) :=
  hc.append (.cons js [] (by simp) (.junk hj ho) (.nil rfl))

theorem appendS_sound {P : Program} {T : Tree} (hT : TOk P T) {t : Nat} (ty : TypeId) {ρ : Rho} {hp : List Blk} {w : World} (h : HSat ρ hp w) {x y : SV} {u v : Value} {K : SV → List Blk → Prop}
    (hu : Den ρ x u) (hv : Den ρ y v) (hK : appendS T t x y hp K) : Runs P (valS (Builtin.append_ #[t, t] ty #[u, v])) ρ w false .other K := by
  unfold appendS at hK
  split at hK
  · exact hK.elim
  · rename_i ti hti
    obtain ⟨d, hd1, hd2⟩ := (hT t ti hti).under
    obtain ⟨_, d', _, _, hd3, _, _, _, _, hd4, _⟩ := hT t ti hti
    split at hK
    · rename_i e hk
      rw [hk] at hd4
      simp only [kindOk] at hd4
      subst hd4
      split at hK
      · exact hK.elim
      · rename_i te hte
        obtain ⟨i, d2, z, hi1, hi2, hi3, hi4, hi5, hi6, hi7, _⟩ := hT e te hte
        split at hK
        · rename_i hsz
          have hzl : z.cells.size = te.size := by simpa using sizeL_len (hi6.weak (ρ := ρ)) hsz
          obtain ⟨c2, ys, ok2, den2, src, hK⟩ := srcS_sound h hv hK
          obtain ⟨X, c1, len, cap, xs, ok1, den1, hlen1, dst, hap, hK⟩ := dstS_sound h hu hK
          rw [apOk_eq, sAddN_val] at hap
          obtain ⟨c, okc, hclen, denc, hK⟩ := joinC_sound hK ok1 ok2 den1 den2
          rw [AllN_eq, sAddN_val] at hK
          have hys : ys.length = c2.len.val * te.size := Cont.size ok2 den2
          generalize hn : c2.len.val = n at *
          -- the state at the end
          cases dst with
          | nil hu' hx hl hc =>
            subst hu'; subst hx
            rcases Nat.eq_zero_or_pos n with h0 | hpos
            · -- nothing is appended to nothing
              subst h0
              have hys0 : ys = [] := List.length_eq_zero_iff.1 (by rw [hys]; omega)
              subst hys0
              refine Runs.det (ok := fun _ => True) (g := id) (val := fun _ => .slice none 0 0) (ρ' := ρ ++ [none]) (fun x _ => .inl (run_valS ?_)) (Beh.pure_inv _) trivial trivial (Ext.push _ _) ?_ ?_ (Kept.refl _) (by simp) (hK 0 (by omega))
              · rcases src.out with ⟨rfl, _, _⟩ | ⟨b, off, cp, rfl, _⟩
                · simp [Builtin.append_, run_underlying' hd3, sizeOf, run_typeInfo' hi1, Builtin.lenOf, Builtin.firstCells]
                · rw [hn]
                  simp [Builtin.append_, run_underlying' hd3, sizeOf, run_typeInfo' hi1, Builtin.lenOf, Builtin.firstCells, loadCells, loadCellsFrom]
              · refine .slc none (by rw [h.len]; simp) (fun _ => ⟨by rw [sAddN_val]; omega, rfl⟩) ?_
                simp [sAddN_val, hl, hn]
              · refine (h.dropX X).newNil ?_
                simpa using list_junk (n := .ex (subN 0 (len.val + 0))) (js := []) (by simpa using denc) (by rw [S.val_ex, subN_eq]; simp) (by simp)
            · -- a first row
              rcases src.out with ⟨_, _, h0⟩ | ⟨b, off, cp, rfl, hrd⟩
              · omega
              rw [hn]
              refine ⟨⟨fun x => ∀ (j : Nat) (u : Value), ys[j]? = some u → x.cell? ⟨b, off + j, none⟩ = some u,
                fun x c x' => ∃ cap', n ≤ cap' ∧ c = .slice (some ⟨x.heap.size, 0, none⟩) n cap' ∧ x' = x.drew.alloc (.cells (ys.toArray ++ Builtin.zeroCells z.cells (cap' - n)) e)⟩, fun x hx => .inl ?_, ⟨fun x hx => ?_, fun x m hx => hx, ?_⟩, hrd, trivial, ?_⟩
              · refine ⟨_, _, ⟨_, grownCap_ge x n 0 e (by omega), rfl, rfl⟩, run_valS (run_append_nil (P := P) x t ty e i z hd3 hi1 hi5 ⟨b, off, none⟩ n cp ys (by rw [hi3]; exact hys) (fun j u hu => by rw [addr_add]; exact hx j u hu) hpos (by omega) ?_)⟩
                rw [hi4]; rw [hl, Nat.zero_add] at hap; omega
              · exact ⟨_, _, n, Nat.le_refl _, rfl, rfl⟩
              · rintro x m c x'' ⟨cap', h1, h2, rfl⟩
                exact ⟨_, ⟨cap', h1, h2, rfl⟩, drew_drewN x m _⟩
              · rintro cv w' ⟨cap', h1, rfl, rfl⟩
                have hnew : HSat (ρ ++ [some (w.heap.size, 0)]) (dropX hp X ++ [.cells e (Cont.list te.size c ++ [.junk te.size (.ex (subN cap' (len.val + n)))])]) (w.drew.alloc (.cells (ys.toArray ++ Builtin.zeroCells z.cells (cap' - n)) e)) := by
                  refine (h.dropX X).new (o := .cells (ys.toArray ++ Builtin.zeroCells z.cells (cap' - n)) e) rfl ⟨ys ++ (Builtin.zeroCells z.cells (cap' - n)).toList, ?_, .inr ⟨w.heap.size, rfl, rfl, ?_⟩⟩
                  · refine list_junk (by simpa using denc.mono (Ext.push ρ [some (w.heap.size, 0)])) ?_ (zeroCells_ones hi6 _)
                    rw [S.val_ex, subN_eq, hl]
                    simp [size_zeroCells, hzl]
                  · show (w.heap.push _)[w.heap.size]? = _
                    simp
                refine ⟨_, _, _, Ext.push _ _, ?_, hnew, ⟨rfl, rfl, rfl, by show w.heap.size ≤ (w.heap.push _).size; simp⟩, by simp, hK cap' (by omega)⟩
                refine .slc (some (w.heap.size, 0)) (by rw [h.len]; simp) (by simp) ?_
                simp [sAddN_val, hl, hn]
          | row X0 b L js hX hr hk' hu' hb hxs hjs hlc ho =>
            subst hX
            have hcs : ∃ ao cp, v = .slice ao n cp ∧ ((ao = none ∧ ys = [] ∧ n = 0) ∨ ∃ b2 off, ao = some ⟨b2, off, none⟩ ∧ ∀ (j : Nat) (u : Value), ys[j]? = some u → w.cell? ⟨b2, off + j, none⟩ = some u) := by
              rcases src.out with ⟨rfl, h1, h2⟩ | ⟨b2, off, cp, rfl, hrd⟩
              · exact ⟨none, 0, by rw [show n = 0 by omega], .inl ⟨rfl, h1, by omega⟩⟩
              · exact ⟨_, cp, by rw [hn], .inr ⟨b2, off, rfl, hrd⟩⟩
            by_cases hroom : len.val + n ≤ cap.val
            · -- there is room
              have hjs' : ys.length ≤ js.length := by rw [hys, hjs]; exact Nat.mul_le_mul_right _ (by omega)
              have hones : ∀ v ∈ ys, oneC v = true := den2.ones_mem
              obtain ⟨ao, cp, rfl, hsrc⟩ := hcs
              subst hu'
              have hmove := h.move hr hk'
              have hidx : (ρ ++ [some (b, 0)])[hp.length]? = some (some (b, 0)) := by rw [h.len]; simp
              have hkx : (hp.set X0 .gone ++ [Blk.cells e L])[hp.length]? = some (.cells e L) := by
                rw [List.getElem?_append_right (by simp)]; simp
              obtain ⟨cs, _, g1, _, g3⟩ := hmove.cellsAt hidx hkx
              rw [hb] at g1
              simp only [Option.some.injEq, Obj.cells.injEq, Array.mk.injEq, and_true] at g1
              have g1 : xs ++ js = cs := by simpa using g1
              subst g1
              have hset : setMany (xs ++ js) (len.val * te.size) ys = xs ++ (ys ++ js.drop ys.length) := by
                rw [setMany_eq _ _ _ (by simp; omega), ← hxs]
                simp [List.drop_append]
              have hden : DenL (ρ ++ [some (b, 0)]) (c.list te.size ++ [.junk te.size (.ex (subN cap.val (len.val + n)))]) (xs ++ (ys ++ js.drop ys.length)) := by
                rw [← List.append_assoc]
                refine list_junk (denc.mono (Ext.push ρ [some (b, 0)])) ?_ fun j hj => ho j (List.mem_of_mem_drop hj)
                rw [S.val_ex, subN_eq]
                simp only [List.length_drop, hjs, hys]
                rw [← Nat.sub_mul]
                congr 1; omega
              have hend := g3 _ _ hden
              rw [List.set_append_right _ _ (by simp)] at hend
              simp only [List.length_set, Nat.sub_self, List.set_cons_zero] at hend
              have hst : stored b (len.val * te.size) ys w = putB w b (.cells (xs ++ (ys ++ js.drop ys.length)).toArray e (0, 0)) := by
                unfold stored
                rw [hb]
                simp only [hset]
              refine Runs.det (ok := fun x => x.heap[b]? = some (.cells (xs ++ js).toArray e (0, 0)) ∧ ∀ b2 off, ao = some ⟨b2, off, none⟩ → ∀ (j : Nat) (u : Value), ys[j]? = some u → x.cell? ⟨b2, off + j, none⟩ = some u)
                (g := fun x => if ys = [] then x else stored b (len.val * te.size) ys x) (val := fun _ => .slice (some ⟨b, 0, none⟩) (len.val + n) cap.val) (ρ' := ρ ++ [some (b, 0)]) (fun x ⟨hx1, hx2⟩ => .inl (run_valS ?_)) ?_ ⟨hb, ?_⟩ trivial (Ext.push _ _) ?_ (hp' := hp.set X0 .gone ++ [.cells e (c.list te.size ++ [.junk te.size (.ex (subN cap.val (len.val + n)))])]) ?_ ?_ (by simp) (hK cap.val hroom)
              · have hf : (Builtin.firstCells te.size n (.slice ao n cp)).run P x = .ok ys.toArray x := by
                  rcases hsrc with ⟨rfl, rfl, rfl⟩ | ⟨b2, off, rfl, _⟩
                  · simp [Builtin.firstCells]
                  · exact run_firstCells_some x te.size n ⟨b2, off, none⟩ n cp ys hys fun j u hu => by rw [addr_add]; exact hx2 b2 off rfl j u hu
                have hsto : (storeCells ⟨b, len.val * te.size, none⟩ ys).run P x = .ok () (if ys = [] then x else stored b (len.val * te.size) ys x) := by
                  split
                  · rename_i e; subst e; simp [storeCells]
                  · exact run_stored hx1 (by simp; omega) hones
                unfold Builtin.append_
                simp only [List.getElem?_toArray, List.getElem?_cons_zero, List.getElem?_cons_succ, Sem.run_bind, run_underlying' hd3, Result.andThen_ok, sizeOf, run_typeInfo' hi1, Sem.run_pure, Builtin.lenOf, hi3]
                simp [hroom, hf, addr_add, hsto]
              · refine Beh.det_inv (fun _ _ h => h) (fun x m => ?_) (fun _ _ => rfl)
                split
                · rfl
                · exact stored_drewN _ _ _ _ _
              · intro b2 off e
                rcases hsrc with ⟨rfl, _⟩ | ⟨b3, off3, e3, hrd⟩
                · cases e
                · rw [e3] at e; cases e; exact hrd
              · refine .slc (some (b, 0)) hidx (by simp) ?_
                simp [sAddN_val, hn]
              · show HSat _ _ (if ys = [] then w else stored b (len.val * te.size) ys w)
                split
                · rename_i e0
                  rw [e0] at hst hend hset
                  have : putB w b (.cells (xs ++ ([] ++ js.drop 0)).toArray e (0, 0)) = w := by
                    have := hst; unfold stored at this; rw [hb] at this
                    simp only [setMany] at this
                    have e4 : putB w b (.cells (xs ++ js).toArray e (0, 0)) = w := putB_same hb
                    simpa using e4
                  rw [show ([] : List Value).length = 0 from rfl, this] at hend
                  exact hend
                · rw [hst]; exact hend
              · show Kept w (if ys = [] then w else stored b (len.val * te.size) ys w)
                split
                · exact Kept.refl _
                · rw [hst]; exact Kept.putB _ _ _
            · -- it moves
              have hnpos : 0 < n := by omega
              obtain ⟨ao, cp, rfl, hsrc⟩ := hcs
              subst hu'
              obtain ⟨b2, off, rfl, hrd⟩ : ∃ b2 off, ao = some ⟨b2, off, none⟩ ∧ ∀ (j : Nat) (u : Value), ys[j]? = some u → w.cell? ⟨b2, off + j, none⟩ = some u := by
                rcases hsrc with ⟨_, _, h0⟩ | h0
                · omega
                · exact h0
              refine ⟨⟨fun x => x.heap[b]? = some (.cells (xs ++ js).toArray e (0, 0)) ∧ ∀ (j : Nat) (u : Value), ys[j]? = some u → x.cell? ⟨b2, off + j, none⟩ = some u,
                fun x c x' => ∃ cap', len.val + n ≤ cap' ∧ c = .slice (some ⟨x.heap.size, 0, none⟩) (len.val + n) cap' ∧ x' = x.drew.alloc (.cells (xs.toArray ++ ys.toArray ++ Builtin.zeroCells z.cells (cap' - (len.val + n))) e)⟩, fun x hx => .inl ?_, ⟨fun x hx => ?_, fun x m hx => hx, ?_⟩, ⟨hb, hrd⟩, trivial, ?_⟩
              · refine ⟨_, _, ⟨_, grownCap_ge x (len.val + n) cap.val e (by omega), rfl, rfl⟩, run_valS (run_append_grow (P := P) x t ty e i z hd3 hi1 hi5 ⟨b, 0, none⟩ len.val cap.val xs (by rw [hi3]; exact hxs) (fun j u hu => ?_) ⟨b2, off, none⟩ n cp ys (by rw [hi3]; exact hys) (fun j u hu => by rw [addr_add]; exact hx.2 j u hu) (by omega) (by omega) ?_)⟩
                · rw [addr_add, cell_of hx.1, Nat.zero_add]
                  have := (List.getElem?_eq_some_iff.1 hu).1
                  simp only [List.getElem?_toArray]
                  rw [List.getElem?_append_left this]; exact hu
                · rw [hi4]; exact growslice_fits (by omega) hap.1
              · exact ⟨_, _, _, Nat.le_refl _, rfl, rfl⟩
              · rintro x m c x'' ⟨cap', h1, h2, rfl⟩
                exact ⟨_, ⟨cap', h1, h2, rfl⟩, drew_drewN x m _⟩
              · rintro cv w' ⟨cap', h1, rfl, rfl⟩
                have hnew : HSat (ρ ++ [some (w.heap.size, 0)]) (dropX hp (some X0) ++ [.cells e (Cont.list te.size c ++ [.junk te.size (.ex (subN cap' (len.val + n)))])]) (w.drew.alloc (.cells (xs.toArray ++ ys.toArray ++ Builtin.zeroCells z.cells (cap' - (len.val + n))) e)) := by
                  refine (h.dropX (some X0)).new (o := .cells (xs.toArray ++ ys.toArray ++ Builtin.zeroCells z.cells (cap' - (len.val + n))) e) rfl ⟨(xs ++ ys) ++ (Builtin.zeroCells z.cells (cap' - (len.val + n))).toList, ?_, .inr ⟨w.heap.size, rfl, rfl, ?_⟩⟩
                  · refine list_junk (denc.mono (Ext.push ρ [some (w.heap.size, 0)])) ?_ (zeroCells_ones hi6 _)
                    rw [S.val_ex, subN_eq]
                    simp [size_zeroCells, hzl]
                  · show (w.heap.push _)[w.heap.size]? = _
                    simp
                refine ⟨_, _, _, Ext.push _ _, ?_, hnew, ⟨rfl, rfl, rfl, by show w.heap.size ≤ (w.heap.push _).size; simp⟩, by simp, hK cap' (by omega)⟩
                refine .slc (some (w.heap.size, 0)) (by rw [h.len]; simp) (by simp) ?_
                simp [sAddN_val, hn]
        · exact hK.elim
    · exact hK.elim
end
end Go.Vex
