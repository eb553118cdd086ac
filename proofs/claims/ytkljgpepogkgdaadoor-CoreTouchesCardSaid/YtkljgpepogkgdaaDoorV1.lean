/-
  VEX, part 1: symbolic values, what they denote, resources of the heap. Plain Lean over the model's worlds; nothing of a program.
-/
import Derived.Orders
import Derived.Tactics
import Derived.Laws.Sem
import Derived.Laws.World
import Derived.Laws.Cells
import Derived.Deep.Draws
set_option linter.unusedSimpArgs false
namespace Go.Vex
set_option linter.unusedVariables false

/-- A literal (the evaluator may look at it) or an expression (it may not). -/
inductive S (α : Type) where
  | lit (a : α)
  | ex (a : α)
def S.val {α : Type} : S α → α
  | .lit a => a
  | .ex a => a
@[simp] theorem S.val_lit {α : Type} (a : α) : (S.lit a).val = a := rfl
@[simp] theorem S.val_ex {α : Type} (a : α) : (S.ex a).val = a := rfl
/-- The offset of a pointer in its resource: a number, or l + i * w + c with i an expression. -/
inductive Off where
  | at (n : Nat)
  | row (l i w c : Nat)
def Off.val : Off → Nat
  | .at n => n
  | .row l i w c => l + i * w + c
def Off.add : Off → Nat → Off
  | .at m, n => .at (m + n)
  | .row l i w c, n => .row l i w (c + n)
theorem Off.val_add (o : Off) (n : Nat) : (o.add n).val = o.val + n := by cases o <;> simp [Off.add, Off.val]; omega

inductive SV where
  | i (k : IntKind) (n : S Int)
  | b (x : S Bool)
  | str (s : ByteArray)
  | p (x : Nat) (o : Off)
  | nilp
  | slc (x l w : Nat) (o len cap : S Nat)
  | nilslc
  | agg (l : List SV)
  | tup (l : List SV)
  | fn (f : Fn) (first cap : List SV)
  | nilfn
  | ifc (t : TypeId) (v : SV)
  | nilifc
  | map (x : Nat)
  | nilmap
  | raw (v : Value)
  | ints (k : IntKind) (m : S Nat) (zs : List Int)
  | rows (w : Nat) (m : S Nat) (f : Nat → List SV)
  | junk (w : Nat) (m : S Nat)

/-- Where each resource begins: a block and a cell of it; none: a nil slice's. -/
abbrev Rho := List (Option (Nat × Nat))

def oneC : Value → Bool
  | .agg _ | .tuple _ => false
  | _ => true

mutual
inductive Den (ρ : Rho) : SV → Value → Prop
  | i {k : IntKind} {n : S Int} {v : Value} (h : v = .int k n.val) : Den ρ (.i k n) v
  | b {x : S Bool} {v : Value} (h : v = .bool x.val) : Den ρ (.b x) v
  | str {s : ByteArray} {v : Value} (h : v = .string s) : Den ρ (.str s) v
  | p {x : Nat} {o : Off} {v : Value} (b o0 : Nat) (hx : ρ[x]? = some (some (b, o0))) (h : v = .pointer (some ⟨b, o0 + o.val, none⟩)) : Den ρ (.p x o) v
  | nilp {v : Value} (h : v = .pointer none) : Den ρ .nilp v
  | slc {x l w : Nat} {o len cap : S Nat} {v : Value} (r : Option (Nat × Nat)) (hx : ρ[x]? = some r)
      (hn : r = none → len.val = 0 ∧ cap.val = 0) (h : v = .slice (r.map fun y => ⟨y.1, y.2 + (l + o.val * w), none⟩) len.val cap.val) : Den ρ (.slc x l w o len cap) v
  | nilslc {v : Value} (h : v = .slice none 0 0) : Den ρ .nilslc v
  | agg {l : List SV} {v : Value} (vs : List Value) (h : v = .agg vs.toArray) (hl : DenL ρ l vs) : Den ρ (.agg l) v
  | tup {l : List SV} {v : Value} (vs : List Value) (h : v = .tuple vs.toArray) (hl : DenT ρ l vs) : Den ρ (.tup l) v
  | fn {f : Fn} {first cap : List SV} {v : Value} (vs us : List Value) (h : v = .func f vs.toArray us.toArray) (h1 : DenT ρ first vs) (h2 : DenT ρ cap us) : Den ρ (.fn f first cap) v
  | nilfn {v : Value} (h : v = .nilFunc) : Den ρ .nilfn v
  | ifc {t : TypeId} {x : SV} {v : Value} (u : Value) (h : v = .iface t u) (hx : Den ρ x u) : Den ρ (.ifc t x) v
  | nilifc {v : Value} (h : v = .nilIface) : Den ρ .nilifc v
  | map {x : Nat} {v : Value} (b : Nat) (hx : ρ[x]? = some (some (b, 0))) (h : v = .map (some b)) : Den ρ (.map x) v
  | nilmap {v : Value} (h : v = .map none) : Den ρ .nilmap v
  | raw {u v : Value} (h : v = u) : Den ρ (.raw u) v
inductive DenC (ρ : Rho) : SV → List Value → Prop
  | one {x : SV} {cs : List Value} (c : Value) (h : cs = [c]) (h1 : oneC c = true) (hx : Den ρ x c) : DenC ρ x cs
  | ints {k : IntKind} {m : S Nat} {zs : List Int} {cs : List Value} (hm : zs.length = m.val) (h : cs = zs.map (Value.int k)) : DenC ρ (.ints k m zs) cs
  | rows {w : Nat} {m : S Nat} {f : Nat → List SV} {cs : List Value} (hm : cs.length = m.val * w)
      (h : ∀ j, j < m.val → DenL ρ (f j) ((cs.drop (j * w)).take w)) : DenC ρ (.rows w m f) cs
  | junk {w : Nat} {m : S Nat} {cs : List Value} (hm : cs.length = m.val * w) (h : ∀ c ∈ cs, oneC c = true) : DenC ρ (.junk w m) cs
inductive DenL (ρ : Rho) : List SV → List Value → Prop
  | nil {cs : List Value} (h : cs = []) : DenL ρ [] cs
  | cons {x : SV} {r : List SV} {cs : List Value} (c1 c2 : List Value) (h : cs = c1 ++ c2) (h1 : DenC ρ x c1) (h2 : DenL ρ r c2) : DenL ρ (x :: r) cs
inductive DenT (ρ : Rho) : List SV → List Value → Prop
  | nil {cs : List Value} (h : cs = []) : DenT ρ [] cs
  | cons {x : SV} {r : List SV} {cs : List Value} (c : Value) (c2 : List Value) (h : cs = c :: c2) (h1 : Den ρ x c) (h2 : DenT ρ r c2) : DenT ρ (x :: r) cs
end

/-- ρ' begins as ρ does. -/
def Ext (ρ ρ' : Rho) : Prop := ∀ (x : Nat) (r : Option (Nat × Nat)), ρ[x]? = some r → ρ'[x]? = some r
theorem Ext.refl (ρ : Rho) : Ext ρ ρ := fun _ _ h => h
theorem Ext.trans {a b c : Rho} (h : Ext a b) (k : Ext b c) : Ext a c := fun x r e => k x r (h x r e)
theorem Ext.push (ρ : Rho) (e : Rho) : Ext ρ (ρ ++ e) := fun x r h => by
  have hlt : x < ρ.length := (List.getElem?_eq_some_iff.1 h).1
  rw [List.getElem?_append_left hlt]; exact h

mutual
theorem Den.mono {ρ ρ' : Rho} (e : Ext ρ ρ') {x : SV} {v : Value} (h : Den ρ x v) : Den ρ' x v :=
  match h with
  | .i h => .i h
  | .b h => .b h
  | .str h => .str h
  | .p b o0 hx h => .p b o0 (e _ _ hx) h
  | .nilp h => .nilp h
  | .slc r hx hn h => .slc r (e _ _ hx) hn h
  | .nilslc h => .nilslc h
  | .agg vs h hl => .agg vs h (DenL.mono e hl)
  | .tup vs h hl => .tup vs h (DenT.mono e hl)
  | .fn vs us h h1 h2 => .fn vs us h (DenT.mono e h1) (DenT.mono e h2)
  | .nilfn h => .nilfn h
  | .ifc u h hx => .ifc u h (Den.mono e hx)
  | .nilifc h => .nilifc h
  | .map b hx h => .map b (e _ _ hx) h
  | .nilmap h => .nilmap h
  | .raw h => .raw h
theorem DenC.mono {ρ ρ' : Rho} (e : Ext ρ ρ') {x : SV} {cs : List Value} (h : DenC ρ x cs) : DenC ρ' x cs :=
  match h with
  | .one c h h1 hx => .one c h h1 (Den.mono e hx)
  | .ints hm h => .ints hm h
  | .rows hm h => .rows hm fun j hj => DenL.mono e (h j hj)
  | .junk hm h => .junk hm h
theorem DenL.mono {ρ ρ' : Rho} (e : Ext ρ ρ') {x : List SV} {cs : List Value} (h : DenL ρ x cs) : DenL ρ' x cs :=
  match h with
  | .nil h => .nil h
  | .cons c1 c2 h h1 h2 => .cons c1 c2 h (DenC.mono e h1) (DenL.mono e h2)
theorem DenT.mono {ρ ρ' : Rho} (e : Ext ρ ρ') {x : List SV} {cs : List Value} (h : DenT ρ x cs) : DenT ρ' x cs :=
  match h with
  | .nil h => .nil h
  | .cons c c2 h h1 h2 => .cons c c2 h (Den.mono e h1) (DenT.mono e h2)
end

/-! ### Resources -/

/-- The blocks that a resource owns; those that it only sees. -/
structure Own where
  own : List Nat
  see : List Nat
def agree (o : Own) (w w' : World) : Prop := ∀ b, b ∈ o.own ∨ b ∈ o.see → w'.heap[b]? = w.heap[b]?
theorem agree.refl (o : Own) (w : World) : agree o w w := fun _ _ => rfl
theorem agree.trans {o : Own} {a b c : World} (h : agree o a b) (k : agree o b c) : agree o a c := fun x hx => (k x hx).trans (h x hx)

inductive Blk where
  | gone
  | cells (T : TypeId) (l : List SV)
  | ro (l : List SV)
  | glob (g : Nat) (l : List SV)
  | obj (o : Obj)
  | abs (A : Option (Nat × Nat) → Own → World → Prop)

def isCells : Obj → Bool
  | .cells .. => true
  | _ => false

def BSat (ρ : Rho) (addr : Option (Nat × Nat)) (o : Own) (w : World) : Blk → Prop
  | .gone => o = ⟨[], []⟩
  | .cells T l => ∃ cs, DenL ρ l cs ∧ ((cs = [] ∧ addr = none ∧ o = ⟨[], []⟩) ∨ ∃ b, addr = some (b, 0) ∧ o = ⟨[b], []⟩ ∧ w.heap[b]? = some (.cells (List.toArray cs) T (0, 0)))
  | .ro l => ∃ cs, DenL ρ l cs ∧ ((cs = [] ∧ o = ⟨[], []⟩) ∨ ∃ b o0, addr = some (b, o0) ∧ o = ⟨[], [b]⟩ ∧
      (cs = [] ∨ ∃ arr T fz, w.heap[b]? = some (.cells arr T fz) ∧ ∀ (j : Nat) (c : Value), cs[j]? = some c → arr[o0 + j]? = some c))
  | .glob g l => ∃ cs arr T fz, DenL ρ l cs ∧ addr = some (g, 0) ∧ o = ⟨[], [g]⟩ ∧ w.heap[g]? = some (.cells arr T fz) ∧ ∀ (j : Nat) (c : Value), cs[j]? = some c → arr[j]? = some c
  | .obj x => ∃ b, addr = some (b, 0) ∧ o = ⟨[b], []⟩ ∧ w.heap[b]? = some x ∧ isCells x = false
  | .abs A => ∀ w', agree o w w' → A addr o w'

theorem BSat.mono {ρ ρ' : Rho} (e : Ext ρ ρ') {addr : Option (Nat × Nat)} {o : Own} {w : World} {k : Blk} (h : BSat ρ addr o w k) : BSat ρ' addr o w k := by
  cases k with
  | gone => exact h
  | cells T l => obtain ⟨cs, h1, h2⟩ := h; exact ⟨cs, h1.mono e, h2⟩
  | ro l => obtain ⟨cs, h1, h2⟩ := h; exact ⟨cs, h1.mono e, h2⟩
  | glob g l => obtain ⟨cs, arr, T, fz, h1, h2⟩ := h; exact ⟨cs, arr, T, fz, h1.mono e, h2⟩
  | obj x => exact h
  | abs A => exact h

theorem BSat.agree {ρ : Rho} {addr : Option (Nat × Nat)} {o : Own} {w w' : World} {k : Blk} (h : BSat ρ addr o w k) (ha : agree o w w') : BSat ρ addr o w' k := by
  cases k with
  | gone => exact h
  | cells T l =>
    obtain ⟨cs, h1, h2⟩ := h
    refine ⟨cs, h1, ?_⟩
    rcases h2 with h2 | ⟨b, e1, rfl, e3⟩
    · exact .inl h2
    · exact .inr ⟨b, e1, rfl, by rw [ha b (by simp)]; exact e3⟩
  | ro l =>
    obtain ⟨cs, h1, h2⟩ := h
    refine ⟨cs, h1, ?_⟩
    rcases h2 with h2 | ⟨b, o0, e1, rfl, e3⟩
    · exact .inl h2
    · refine .inr ⟨b, o0, e1, rfl, ?_⟩
      rcases e3 with e3 | ⟨arr, T, fz, e4, e5⟩
      · exact .inl e3
      · exact .inr ⟨arr, T, fz, by rw [ha b (by simp)]; exact e4, e5⟩
  | glob g l => obtain ⟨cs, arr, T, fz, h1, h2, rfl, h4, h5⟩ := h; exact ⟨cs, arr, T, fz, h1, h2, rfl, by rw [ha g (by simp)]; exact h4, h5⟩
  | obj x => obtain ⟨b, h1, rfl, h3, h4⟩ := h; exact ⟨b, h1, rfl, by rw [ha b (by simp)]; exact h3, h4⟩
  | abs A => exact fun w2 h2 => h w2 (ha.trans h2)

structure HSatO (ρ : Rho) (ω : List Own) (hp : List Blk) (w : World) : Prop where
  lenω : ω.length = ρ.length
  lenh : hp.length = ρ.length
  sat : ∀ (x : Nat) (a : Option (Nat × Nat)) (o : Own) (k : Blk), ρ[x]? = some a → ω[x]? = some o → hp[x]? = some k → BSat ρ a o w k
  dis : ∀ (x y : Nat) (ox oy : Own), ω[x]? = some ox → ω[y]? = some oy → ∀ b, b ∈ ox.own → (b ∈ oy.own → x = y) ∧ b ∉ oy.see
  bnd : ∀ (x : Nat) (ox : Own), ω[x]? = some ox → ∀ b, b ∈ ox.own ∨ b ∈ ox.see → b < w.heap.size

def HSat (ρ : Rho) (hp : List Blk) (w : World) : Prop := ∃ ω, HSatO ρ ω hp w

/-- The streams are as they were; no block has gone. -/
structure Kept (w w' : World) : Prop where
  os : w'.os = w.os
  tape : w'.tape = w.tape
  output : w'.output = w.output
  size : w.heap.size ≤ w'.heap.size
theorem Kept.refl (w : World) : Kept w w := ⟨rfl, rfl, rfl, Nat.le_refl _⟩
theorem Kept.trans {a b c : World} (h : Kept a b) (k : Kept b c) : Kept a c := ⟨k.os.trans h.os, k.tape.trans h.tape, k.output.trans h.output, Nat.le_trans h.size k.size⟩
theorem Kept.drewN (w : World) (n : Nat) : Kept w (w.drewN n) := ⟨rfl, rfl, rfl, Nat.le_refl _⟩
theorem Kept.alloc (w : World) (o : Obj) : Kept w (w.alloc o) := ⟨rfl, rfl, rfl, by simp⟩

theorem HSatO.heap {ρ : Rho} {ω : List Own} {hp : List Blk} {w w' : World} (h : HSatO ρ ω hp w) (he : w'.heap = w.heap) : HSatO ρ ω hp w' :=
  ⟨h.lenω, h.lenh, fun x a o k h1 h2 h3 => (h.sat x a o k h1 h2 h3).agree fun b _ => by rw [he], h.dis, fun x ox h1 b hb => by rw [he]; exact h.bnd x ox h1 b hb⟩
theorem HSat.heap {ρ : Rho} {hp : List Blk} {w w' : World} (h : HSat ρ hp w) (he : w'.heap = w.heap) : HSat ρ hp w' :=
  let ⟨ω, h⟩ := h; ⟨ω, h.heap he⟩
theorem HSat.drewN {ρ : Rho} {hp : List Blk} {w : World} (h : HSat ρ hp w) (n : Nat) : HSat ρ hp (w.drewN n) := h.heap rfl

theorem getElem?_snoc {α : Type} (l : List α) (a : α) (x : Nat) (b : α) (h : (l ++ [a])[x]? = some b) : (x < l.length ∧ l[x]? = some b) ∨ (x = l.length ∧ b = a) := by
  rcases Nat.lt_trichotomy x l.length with hx | hx | hx
  · rw [List.getElem?_append_left hx] at h; exact .inl ⟨hx, h⟩
  · subst hx; simp at h; exact .inr ⟨rfl, h.symm⟩
  · rw [List.getElem?_append_right (by omega)] at h
    rw [List.getElem?_eq_none (by simp; omega)] at h; cases h

/-- A new block. -/
theorem HSat.new {ρ : Rho} {hp : List Blk} {w w' : World} {o : Obj} {k : Blk} (h : HSat ρ hp w) (hw : w'.heap = w.heap.push o)
    (hk : BSat (ρ ++ [some (w.heap.size, 0)]) (some (w.heap.size, 0)) ⟨[w.heap.size], []⟩ w' k) :
    HSat (ρ ++ [some (w.heap.size, 0)]) (hp ++ [k]) w' := by
  obtain ⟨ω, h⟩ := h
  have hlt : ∀ b, b < w.heap.size → w'.heap[b]? = w.heap[b]? := fun b hb => by rw [hw, Array.getElem?_push, if_neg (by omega)]
  refine ⟨ω ++ [⟨[w.heap.size], []⟩], by simp [h.lenω], by simp [h.lenh], ?_, ?_, ?_⟩
  · intro x a o k' h1 h2 h3
    rcases getElem?_snoc _ _ _ _ h1 with ⟨hx, h1'⟩ | ⟨hx, h1'⟩
    · rcases getElem?_snoc _ _ _ _ h2 with ⟨_, h2'⟩ | ⟨hx2, _⟩
      · rcases getElem?_snoc _ _ _ _ h3 with ⟨_, h3'⟩ | ⟨hx3, _⟩
        · exact ((h.sat x a o k' h1' h2' h3').mono (Ext.push _ _)).agree fun b hb => hlt b (h.bnd x o h2' b hb)
        · exact absurd hx3 (by rw [h.lenh]; omega)
      · exact absurd hx2 (by rw [h.lenω]; omega)
    · subst h1'
      rcases getElem?_snoc _ _ _ _ h2 with ⟨hx2, _⟩ | ⟨_, h2'⟩
      · exact absurd hx2 (by rw [h.lenω]; omega)
      · rcases getElem?_snoc _ _ _ _ h3 with ⟨hx3, _⟩ | ⟨_, h3'⟩
        · exact absurd hx3 (by rw [h.lenh]; omega)
        · subst h2'; subst h3'; exact hk
  · intro x y ox oy hx hy b hb
    rcases getElem?_snoc _ _ _ _ hx with ⟨lx, hx'⟩ | ⟨ex, hx'⟩
    · rcases getElem?_snoc _ _ _ _ hy with ⟨ly, hy'⟩ | ⟨ey, hy'⟩
      · exact h.dis x y ox oy hx' hy' b hb
      · have := h.bnd x ox hx' b (.inl hb)
        subst hy'
        simp only [List.mem_singleton, List.not_mem_nil, not_false_eq_true, and_true]
        intro e; omega
    · subst hx'
      simp only [List.mem_singleton] at hb
      subst hb
      rcases getElem?_snoc _ _ _ _ hy with ⟨ly, hy'⟩ | ⟨ey, hy'⟩
      · refine ⟨fun hb => ?_, fun hb => ?_⟩
        · have := h.bnd y oy hy' _ (.inl hb); omega
        · have := h.bnd y oy hy' _ (.inr hb); omega
      · subst hy'; simp [ex, ey]
  · intro x ox hx b hb
    rw [hw, Array.size_push]
    rcases getElem?_snoc _ _ _ _ hx with ⟨lx, hx'⟩ | ⟨ex, hx'⟩
    · have := h.bnd x ox hx' b hb; omega
    · subst hx'; simp at hb; omega

/-- One resource turns; only blocks that it owns have turned. -/
theorem HSatO.turn {ρ : Rho} {ω : List Own} {hp : List Blk} {w w' : World} {x : Nat} {a : Option (Nat × Nat)} {o : Own} {k : Blk} (h : HSatO ρ ω hp w)
    (ha : ρ[x]? = some a) (ho : ω[x]? = some o) (hk : BSat ρ a o w' k)
    (hsz : w.heap.size ≤ w'.heap.size) (hf : ∀ b, b < w.heap.size → b ∉ o.own → w'.heap[b]? = w.heap[b]?) : HSatO ρ ω (hp.set x k) w' := by
  refine ⟨h.lenω, by simp [h.lenh], ?_, h.dis, fun y oy hy b hb => Nat.lt_of_lt_of_le (h.bnd y oy hy b hb) hsz⟩
  intro y a' o' k' h1 h2 h3
  by_cases hxy : x = y
  · subst hxy
    rw [ha] at h1; cases h1
    rw [ho] at h2; cases h2
    have hlt : x < hp.length := by rw [h.lenh]; exact (List.getElem?_eq_some_iff.1 ha).1
    rw [List.getElem?_set_self hlt] at h3; cases h3
    exact hk
  · rw [List.getElem?_set_ne hxy] at h3
    refine (h.sat y a' o' k' h1 h2 h3).agree fun b hb => hf b (h.bnd y o' h2 b hb) fun hbo => ?_
    have := h.dis x y o o' ho h2 b hbo
    rcases hb with hb | hb
    · exact hxy (this.1 hb)
    · exact this.2 hb

end Go.Vex
