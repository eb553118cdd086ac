/-
  Joined: V1 VD V2 V3 VE VP VQ V4 V5 V6 V7.
-/
import Derived.Orders
import Derived.Tactics
import Derived.Laws.Sem
import Derived.Laws.World
import Derived.Laws.Cells
import Derived.Deep.Draws
import Derived.Laws.NewBlocks
import Derived.Laws.StructEq
import Derived.ChangeKeysEq
set_option linter.unusedVariables false
set_option linter.unusedSimpArgs false
/-
  VEX, part 1: symbolic values, what they denote, resources of the heap. Plain Lean over the model's worlds; nothing of a program.
-/
section
namespace Go.Vex

/-- A literal (the evaluator may look at it) or an expression (it may not). -/
inductive S (α : Type) where
  | lit (a : α)
  | ex (a : α)
def S.val {α : Type} : S α → α
  | .lit a => a
  | .ex a => a
@[simp] theorem S.val_lit {α : Type} (a : α) : (S.lit a).val = a := rfl
@[simp] theorem S.val_ex {α : Type} (a : α) : (S.ex a).val = a := rfl
/-- The offset of a pointer in its resource: a number, or l + i * w + c with i an expression. -/
inductive Off where
  | at (n : Nat)
  | row (l i w c : Nat)
def Off.val : Off → Nat
  | .at n => n
  | .row l i w c => l + i * w + c
def Off.add : Off → Nat → Off
  | .at m, n => .at (m + n)
  | .row l i w c, n => .row l i w (c + n)
theorem Off.val_add (o : Off) (n : Nat) : (o.add n).val = o.val + n := by cases o <;> simp [Off.add, Off.val]; omega

inductive SV where
  | i (k : IntKind) (n : S Int)
  | b (x : S Bool)
  | str (s : ByteArray)
  | p (x : Nat) (o : Off)
  | nilp
  | slc (x l w : Nat) (o len cap : S Nat)
  | nilslc
  | agg (l : List SV)
  | tup (l : List SV)
  | fn (f : Fn) (first cap : List SV)
  | nilfn
  | ifc (t : TypeId) (v : SV)
  | nilifc
  | map (x : Nat)
  | nilmap
  | raw (v : Value)
  | ints (k : IntKind) (m : S Nat) (zs : List Int)
  | rows (w : Nat) (m : S Nat) (f : Nat → List SV)
  | junk (w : Nat) (m : S Nat)
  /-- A slice that begins at a place within rows. -/
  | slr (x : Nat) (b : Off) (w : Nat) (len cap : S Nat)

/-- Where each resource begins: a block and a cell of it; none: a nil slice's. -/
abbrev Rho := List (Option (Nat × Nat))

def oneC : Value → Bool
  | .agg _ | .tuple _ => false
  | _ => true

mutual
inductive Den (ρ : Rho) : SV → Value → Prop
  | i {k : IntKind} {n : S Int} {v : Value} (h : v = .int k n.val) : Den ρ (.i k n) v
  | b {x : S Bool} {v : Value} (h : v = .bool x.val) : Den ρ (.b x) v
  | str {s : ByteArray} {v : Value} (h : v = .string s) : Den ρ (.str s) v
  | p {x : Nat} {o : Off} {v : Value} (b o0 : Nat) (hx : ρ[x]? = some (some (b, o0))) (h : v = .pointer (some ⟨b, o0 + o.val, none⟩)) : Den ρ (.p x o) v
  | nilp {v : Value} (h : v = .pointer none) : Den ρ .nilp v
  | slc {x l w : Nat} {o len cap : S Nat} {v : Value} (r : Option (Nat × Nat)) (hx : ρ[x]? = some r)
      (hn : r = none → len.val = 0 ∧ cap.val = 0) (h : v = .slice (r.map fun y => ⟨y.1, y.2 + (l + o.val * w), none⟩) len.val cap.val) : Den ρ (.slc x l w o len cap) v
  | nilslc {v : Value} (h : v = .slice none 0 0) : Den ρ .nilslc v
  | agg {l : List SV} {v : Value} (vs : List Value) (h : v = .agg vs.toArray) (hl : DenL ρ l vs) : Den ρ (.agg l) v
  | tup {l : List SV} {v : Value} (vs : List Value) (h : v = .tuple vs.toArray) (hl : DenT ρ l vs) : Den ρ (.tup l) v
  | fn {f : Fn} {first cap : List SV} {v : Value} (vs us : List Value) (h : v = .func f vs.toArray us.toArray) (h1 : DenT ρ first vs) (h2 : DenT ρ cap us) : Den ρ (.fn f first cap) v
  | nilfn {v : Value} (h : v = .nilFunc) : Den ρ .nilfn v
  | ifc {t : TypeId} {x : SV} {v : Value} (u : Value) (h : v = .iface t u) (hx : Den ρ x u) : Den ρ (.ifc t x) v
  | nilifc {v : Value} (h : v = .nilIface) : Den ρ .nilifc v
  | map {x : Nat} {v : Value} (b : Nat) (hx : ρ[x]? = some (some (b, 0))) (h : v = .map (some b)) : Den ρ (.map x) v
  | nilmap {v : Value} (h : v = .map none) : Den ρ .nilmap v
  | raw {u v : Value} (h : v = u) : Den ρ (.raw u) v
  | slr {x w : Nat} {o : Off} {len cap : S Nat} {v : Value} (b o0 : Nat) (hx : ρ[x]? = some (some (b, o0))) (h : v = .slice (some ⟨b, o0 + o.val, none⟩) len.val cap.val) : Den ρ (.slr x o w len cap) v
inductive DenC (ρ : Rho) : SV → List Value → Prop
  | one {x : SV} {cs : List Value} (c : Value) (h : cs = [c]) (h1 : oneC c = true) (hx : Den ρ x c) : DenC ρ x cs
  | ints {k : IntKind} {m : S Nat} {zs : List Int} {cs : List Value} (hm : zs.length = m.val) (h : cs = zs.map (Value.int k)) : DenC ρ (.ints k m zs) cs
  | rows {w : Nat} {m : S Nat} {f : Nat → List SV} {cs : List Value} (hm : cs.length = m.val * w)
      (h : ∀ j, j < m.val → DenL ρ (f j) ((cs.drop (j * w)).take w)) : DenC ρ (.rows w m f) cs
  | junk {w : Nat} {m : S Nat} {cs : List Value} (hm : cs.length = m.val * w) (h : ∀ c ∈ cs, oneC c = true) : DenC ρ (.junk w m) cs
inductive DenL (ρ : Rho) : List SV → List Value → Prop
  | nil {cs : List Value} (h : cs = []) : DenL ρ [] cs
  | cons {x : SV} {r : List SV} {cs : List Value} (c1 c2 : List Value) (h : cs = c1 ++ c2) (h1 : DenC ρ x c1) (h2 : DenL ρ r c2) : DenL ρ (x :: r) cs
inductive DenT (ρ : Rho) : List SV → List Value → Prop
  | nil {cs : List Value} (h : cs = []) : DenT ρ [] cs
  | cons {x : SV} {r : List SV} {cs : List Value} (c : Value) (c2 : List Value) (h : cs = c :: c2) (h1 : Den ρ x c) (h2 : DenT ρ r c2) : DenT ρ (x :: r) cs
end

/-- ρ' begins as ρ does. -/
def Ext (ρ ρ' : Rho) : Prop := ∀ (x : Nat) (r : Option (Nat × Nat)), ρ[x]? = some r → ρ'[x]? = some r
theorem Ext.refl (ρ : Rho) : Ext ρ ρ := fun _ _ h => h
theorem Ext.trans {a b c : Rho} (h : Ext a b) (k : Ext b c) : Ext a c := fun x r e => k x r (h x r e)
theorem Ext.push (ρ : Rho) (e : Rho) : Ext ρ (ρ ++ e) := fun x r h => by
  have hlt : x < ρ.length := (List.getElem?_eq_some_iff.1 h).1
  rw [List.getElem?_append_left hlt]; exact h

mutual
theorem Den.mono {ρ ρ' : Rho} (e : Ext ρ ρ') {x : SV} {v : Value} (h : Den ρ x v) : Den ρ' x v :=
  match h with
  | .i h => .i h
  | .b h => .b h
  | .str h => .str h
  | .p b o0 hx h => .p b o0 (e _ _ hx) h
  | .nilp h => .nilp h
  | .slc r hx hn h => .slc r (e _ _ hx) hn h
  | .nilslc h => .nilslc h
  | .agg vs h hl => .agg vs h (DenL.mono e hl)
  | .tup vs h hl => .tup vs h (DenT.mono e hl)
  | .fn vs us h h1 h2 => .fn vs us h (DenT.mono e h1) (DenT.mono e h2)
  | .nilfn h => .nilfn h
  | .ifc u h hx => .ifc u h (Den.mono e hx)
  | .nilifc h => .nilifc h
  | .map b hx h => .map b (e _ _ hx) h
  | .nilmap h => .nilmap h
  | .raw h => .raw h
  | .slr b o0 hx h => .slr b o0 (e _ _ hx) h
theorem DenC.mono {ρ ρ' : Rho} (e : Ext ρ ρ') {x : SV} {cs : List Value} (h : DenC ρ x cs) : DenC ρ' x cs :=
  match h with
  | .one c h h1 hx => .one c h h1 (Den.mono e hx)
  | .ints hm h => .ints hm h
  | .rows hm h => .rows hm fun j hj => DenL.mono e (h j hj)
  | .junk hm h => .junk hm h
theorem DenL.mono {ρ ρ' : Rho} (e : Ext ρ ρ') {x : List SV} {cs : List Value} (h : DenL ρ x cs) : DenL ρ' x cs :=
  match h with
  | .nil h => .nil h
  | .cons c1 c2 h h1 h2 => .cons c1 c2 h (DenC.mono e h1) (DenL.mono e h2)
theorem DenT.mono {ρ ρ' : Rho} (e : Ext ρ ρ') {x : List SV} {cs : List Value} (h : DenT ρ x cs) : DenT ρ' x cs :=
  match h with
  | .nil h => .nil h
  | .cons c c2 h h1 h2 => .cons c c2 h (Den.mono e h1) (DenT.mono e h2)
end

/-! ### Resources -/

/-- The blocks that a resource owns; those that it only sees. -/
structure Own where
  own : List Nat
  see : List Nat
def agree (o : Own) (w w' : World) : Prop := ∀ b, b ∈ o.own ∨ b ∈ o.see → w'.heap[b]? = w.heap[b]?
theorem agree.refl (o : Own) (w : World) : agree o w w := fun _ _ => rfl
theorem agree.trans {o : Own} {a b c : World} (h : agree o a b) (k : agree o b c) : agree o a c := fun x hx => (k x hx).trans (h x hx)

inductive Blk where
  | gone
  | cells (T : TypeId) (l : List SV)
  | ro (l : List SV)
  | glob (g : Nat) (l : List SV)
  | obj (o : Obj)
  | abs (A : Option (Nat × Nat) → Own → World → Prop)
  /-- A thing that bears values. -/
  | av (l : List SV) (A : List Value → Option (Nat × Nat) → Own → World → Prop)

def isCells : Obj → Bool
  | .cells .. => true
  | _ => false

def BSat (ρ : Rho) (addr : Option (Nat × Nat)) (o : Own) (w : World) : Blk → Prop
  | .gone => o = ⟨[], []⟩
  | .cells T l => ∃ cs, DenL ρ l cs ∧ ((cs = [] ∧ addr = none ∧ o = ⟨[], []⟩) ∨ ∃ b, addr = some (b, 0) ∧ o = ⟨[b], []⟩ ∧ w.heap[b]? = some (.cells (List.toArray cs) T (0, 0)))
  | .ro l => ∃ cs, DenL ρ l cs ∧ ((cs = [] ∧ o = ⟨[], []⟩) ∨ ∃ b o0, addr = some (b, o0) ∧ o = ⟨[], [b]⟩ ∧
      (cs = [] ∨ ∃ arr T fz, w.heap[b]? = some (.cells arr T fz) ∧ ∀ (j : Nat) (c : Value), cs[j]? = some c → arr[o0 + j]? = some c))
  | .glob g l => ∃ cs arr T fz, DenL ρ l cs ∧ addr = some (g, 0) ∧ o = ⟨[], [g]⟩ ∧ w.heap[g]? = some (.cells arr T fz) ∧ ∀ (j : Nat) (c : Value), cs[j]? = some c → arr[j]? = some c
  | .obj x => ∃ b, addr = some (b, 0) ∧ o = ⟨[b], []⟩ ∧ w.heap[b]? = some x ∧ isCells x = false
  | .abs A => ∀ w', agree o w w' → A addr o w'
  | .av l A => ∃ vs, DenT ρ l vs ∧ ∀ w', agree o w w' → A vs addr o w'

theorem BSat.mono {ρ ρ' : Rho} (e : Ext ρ ρ') {addr : Option (Nat × Nat)} {o : Own} {w : World} {k : Blk} (h : BSat ρ addr o w k) : BSat ρ' addr o w k := by
  cases k with
  | gone => exact h
  | cells T l => obtain ⟨cs, h1, h2⟩ := h; exact ⟨cs, h1.mono e, h2⟩
  | ro l => obtain ⟨cs, h1, h2⟩ := h; exact ⟨cs, h1.mono e, h2⟩
  | glob g l => obtain ⟨cs, arr, T, fz, h1, h2⟩ := h; exact ⟨cs, arr, T, fz, h1.mono e, h2⟩
  | obj x => exact h
  | abs A => exact h
  | av l A => obtain ⟨vs, h1, h2⟩ := h; exact ⟨vs, h1.mono e, h2⟩

theorem BSat.agree {ρ : Rho} {addr : Option (Nat × Nat)} {o : Own} {w w' : World} {k : Blk} (h : BSat ρ addr o w k) (ha : agree o w w') : BSat ρ addr o w' k := by
  cases k with
  | gone => exact h
  | cells T l =>
    obtain ⟨cs, h1, h2⟩ := h
    refine ⟨cs, h1, ?_⟩
    rcases h2 with h2 | ⟨b, e1, rfl, e3⟩
    · exact .inl h2
    · exact .inr ⟨b, e1, rfl, by rw [ha b (by simp)]; exact e3⟩
  | ro l =>
    obtain ⟨cs, h1, h2⟩ := h
    refine ⟨cs, h1, ?_⟩
    rcases h2 with h2 | ⟨b, o0, e1, rfl, e3⟩
    · exact .inl h2
    · refine .inr ⟨b, o0, e1, rfl, ?_⟩
      rcases e3 with e3 | ⟨arr, T, fz, e4, e5⟩
      · exact .inl e3
      · exact .inr ⟨arr, T, fz, by rw [ha b (by simp)]; exact e4, e5⟩
  | glob g l => obtain ⟨cs, arr, T, fz, h1, h2, rfl, h4, h5⟩ := h; exact ⟨cs, arr, T, fz, h1, h2, rfl, by rw [ha g (by simp)]; exact h4, h5⟩
  | obj x => obtain ⟨b, h1, rfl, h3, h4⟩ := h; exact ⟨b, h1, rfl, by rw [ha b (by simp)]; exact h3, h4⟩
  | abs A => exact fun w2 h2 => h w2 (ha.trans h2)
  | av l A => obtain ⟨vs, h1, h2⟩ := h; exact ⟨vs, h1, fun w2 h3 => h2 w2 (ha.trans h3)⟩

structure HSatO (ρ : Rho) (ω : List Own) (hp : List Blk) (w : World) : Prop where
  lenω : ω.length = ρ.length
  lenh : hp.length = ρ.length
  sat : ∀ (x : Nat) (a : Option (Nat × Nat)) (o : Own) (k : Blk), ρ[x]? = some a → ω[x]? = some o → hp[x]? = some k → BSat ρ a o w k
  dis : ∀ (x y : Nat) (ox oy : Own), ω[x]? = some ox → ω[y]? = some oy → ∀ b, b ∈ ox.own → (b ∈ oy.own → x = y) ∧ b ∉ oy.see
  bnd : ∀ (x : Nat) (ox : Own), ω[x]? = some ox → ∀ b, b ∈ ox.own ∨ b ∈ ox.see → b < w.heap.size

def HSat (ρ : Rho) (hp : List Blk) (w : World) : Prop := ∃ ω, HSatO ρ ω hp w

/-- The streams are as they were; no block has gone. -/
structure Kept (w w' : World) : Prop where
  os : w'.os = w.os
  tape : w'.tape = w.tape
  output : w'.output = w.output
  size : w.heap.size ≤ w'.heap.size
theorem Kept.refl (w : World) : Kept w w := ⟨rfl, rfl, rfl, Nat.le_refl _⟩
theorem Kept.trans {a b c : World} (h : Kept a b) (k : Kept b c) : Kept a c := ⟨k.os.trans h.os, k.tape.trans h.tape, k.output.trans h.output, Nat.le_trans h.size k.size⟩
theorem Kept.drewN (w : World) (n : Nat) : Kept w (w.drewN n) := ⟨rfl, rfl, rfl, Nat.le_refl _⟩
theorem Kept.alloc (w : World) (o : Obj) : Kept w (w.alloc o) := ⟨rfl, rfl, rfl, by simp⟩

theorem HSatO.heap {ρ : Rho} {ω : List Own} {hp : List Blk} {w w' : World} (h : HSatO ρ ω hp w) (he : w'.heap = w.heap) : HSatO ρ ω hp w' :=
  ⟨h.lenω, h.lenh, fun x a o k h1 h2 h3 => (h.sat x a o k h1 h2 h3).agree fun b _ => by rw [he], h.dis, fun x ox h1 b hb => by rw [he]; exact h.bnd x ox h1 b hb⟩
theorem HSat.heap {ρ : Rho} {hp : List Blk} {w w' : World} (h : HSat ρ hp w) (he : w'.heap = w.heap) : HSat ρ hp w' :=
  let ⟨ω, h⟩ := h; ⟨ω, h.heap he⟩
theorem HSat.drewN {ρ : Rho} {hp : List Blk} {w : World} (h : HSat ρ hp w) (n : Nat) : HSat ρ hp (w.drewN n) := h.heap rfl

theorem getElem?_snoc {α : Type} (l : List α) (a : α) (x : Nat) (b : α) (h : (l ++ [a])[x]? = some b) : (x < l.length ∧ l[x]? = some b) ∨ (x = l.length ∧ b = a) := by
  rcases Nat.lt_trichotomy x l.length with hx | hx | hx
  · rw [List.getElem?_append_left hx] at h; exact .inl ⟨hx, h⟩
  · subst hx; simp at h; exact .inr ⟨rfl, h.symm⟩
  · rw [List.getElem?_append_right (by omega)] at h
    rw [List.getElem?_eq_none (by simp; omega)] at h; cases h

/-- A new block. -/
theorem HSat.new {ρ : Rho} {hp : List Blk} {w w' : World} {o : Obj} {k : Blk} (h : HSat ρ hp w) (hw : w'.heap = w.heap.push o)
    (hk : BSat (ρ ++ [some (w.heap.size, 0)]) (some (w.heap.size, 0)) ⟨[w.heap.size], []⟩ w' k) :
    HSat (ρ ++ [some (w.heap.size, 0)]) (hp ++ [k]) w' := by
  obtain ⟨ω, h⟩ := h
  have hlt : ∀ b, b < w.heap.size → w'.heap[b]? = w.heap[b]? := fun b hb => by rw [hw, Array.getElem?_push, if_neg (by omega)]
  refine ⟨ω ++ [⟨[w.heap.size], []⟩], by simp [h.lenω], by simp [h.lenh], ?_, ?_, ?_⟩
  · intro x a o k' h1 h2 h3
    rcases getElem?_snoc _ _ _ _ h1 with ⟨hx, h1'⟩ | ⟨hx, h1'⟩
    · rcases getElem?_snoc _ _ _ _ h2 with ⟨_, h2'⟩ | ⟨hx2, _⟩
      · rcases getElem?_snoc _ _ _ _ h3 with ⟨_, h3'⟩ | ⟨hx3, _⟩
        · exact ((h.sat x a o k' h1' h2' h3').mono (Ext.push _ _)).agree fun b hb => hlt b (h.bnd x o h2' b hb)
        · exact absurd hx3 (by rw [h.lenh]; omega)
      · exact absurd hx2 (by rw [h.lenω]; omega)
    · subst h1'
      rcases getElem?_snoc _ _ _ _ h2 with ⟨hx2, _⟩ | ⟨_, h2'⟩
      · exact absurd hx2 (by rw [h.lenω]; omega)
      · rcases getElem?_snoc _ _ _ _ h3 with ⟨hx3, _⟩ | ⟨_, h3'⟩
        · exact absurd hx3 (by rw [h.lenh]; omega)
        · subst h2'; subst h3'; exact hk
  · intro x y ox oy hx hy b hb
    rcases getElem?_snoc _ _ _ _ hx with ⟨lx, hx'⟩ | ⟨ex, hx'⟩
    · rcases getElem?_snoc _ _ _ _ hy with ⟨ly, hy'⟩ | ⟨ey, hy'⟩
      · exact h.dis x y ox oy hx' hy' b hb
      · have := h.bnd x ox hx' b (.inl hb)
        subst hy'
        simp only [List.mem_singleton, List.not_mem_nil, not_false_eq_true, and_true]
        intro e; omega
    · subst hx'
      simp only [List.mem_singleton] at hb
      subst hb
      rcases getElem?_snoc _ _ _ _ hy with ⟨ly, hy'⟩ | ⟨ey, hy'⟩
      · refine ⟨fun hb => ?_, fun hb => ?_⟩
        · have := h.bnd y oy hy' _ (.inl hb); omega
        · have := h.bnd y oy hy' _ (.inr hb); omega
      · subst hy'; simp [ex, ey]
  · intro x ox hx b hb
    rw [hw, Array.size_push]
    rcases getElem?_snoc _ _ _ _ hx with ⟨lx, hx'⟩ | ⟨ex, hx'⟩
    · have := h.bnd x ox hx' b hb; omega
    · subst hx'; simp at hb; omega

/-- One resource turns; only blocks that it owns have turned. -/
theorem HSatO.turn {ρ : Rho} {ω : List Own} {hp : List Blk} {w w' : World} {x : Nat} {a : Option (Nat × Nat)} {o : Own} {k : Blk} (h : HSatO ρ ω hp w)
    (ha : ρ[x]? = some a) (ho : ω[x]? = some o) (hk : BSat ρ a o w' k)
    (hsz : w.heap.size ≤ w'.heap.size) (hf : ∀ b, b < w.heap.size → b ∉ o.own → w'.heap[b]? = w.heap[b]?) : HSatO ρ ω (hp.set x k) w' := by
  refine ⟨h.lenω, by simp [h.lenh], ?_, h.dis, fun y oy hy b hb => Nat.lt_of_lt_of_le (h.bnd y oy hy b hb) hsz⟩
  intro y a' o' k' h1 h2 h3
  by_cases hxy : x = y
  · subst hxy
    rw [ha] at h1; cases h1
    rw [ho] at h2; cases h2
    have hlt : x < hp.length := by rw [h.lenh]; exact (List.getElem?_eq_some_iff.1 ha).1
    rw [List.getElem?_set_self hlt] at h3; cases h3
    exact hk
  · rw [List.getElem?_set_ne hxy] at h3
    refine (h.sat y a' o' k' h1 h2 h3).agree fun b hb => hf b (h.bnd y o' h2 b hb) fun hbo => ?_
    have := h.dis x y o o' ho h2 b hbo
    rcases hb with hb | hb
    · exact hxy (this.1 hb)
    · exact this.2 hb

end Go.Vex
end

/-
  VEX, draws: a region that draws its order, whose operations commute where nothing orders them: one walk in the text's order serves all.
-/
section
namespace Go.Vex

/-- What an operation does to worlds in which it may be carried out: what it may come to. -/
structure Beh where
  ok : World → Prop
  rel : World → Value → World → Prop

/-- Worlds that differ in how much has been drawn. (fz: in any way; else: more.) -/
def DR (fz : Bool) (w w' : World) : Prop := ∃ d, w' = { w with drawn := d } ∧ (fz = false → w.drawn ≤ d)
theorem DR.refl (fz : Bool) (w : World) : DR fz w w := ⟨w.drawn, rfl, fun _ => Nat.le_refl _⟩
theorem DR.drewN (fz : Bool) (w : World) (n : Nat) : DR fz w (w.drewN n) := ⟨w.drawn + n, rfl, fun _ => Nat.le_add_right _ _⟩
theorem DR.trans {fz : Bool} {a b c : World} (h : DR fz a b) (k : DR fz b c) : DR fz a c := by
  obtain ⟨d, rfl, h⟩ := h
  obtain ⟨e, rfl, k⟩ := k
  exact ⟨e, rfl, fun hf => Nat.le_trans (h hf) (k hf)⟩
theorem DR.more {a b : World} (h : DR false a b) : ∃ n, b = a.drewN n := by
  obtain ⟨d, rfl, h⟩ := h
  have := h rfl
  refine ⟨d - a.drawn, ?_⟩
  show _ = { a with drawn := a.drawn + (d - a.drawn) }
  rw [Nat.add_sub_cancel' this]

/-- It comes to something; it does not look at how much has been drawn. -/
structure Beh.InvF (fz : Bool) (B : Beh) : Prop where
  tot : ∀ x, B.ok x → ∃ v x', B.rel x v x'
  ok : ∀ x y, DR fz x y → B.ok x → B.ok y
  rel : ∀ x y v y', DR fz x y → B.rel y v y' → ∃ x', B.rel x v x' ∧ DR fz x' y'
abbrev Beh.Inv (B : Beh) : Prop := ∀ fz, B.InvF fz

/-- With one outcome. -/
def Beh.det (ok : World → Prop) (g : World → World) (val : World → Value) : Beh := ⟨ok, fun x v x' => v = val x ∧ x' = g x⟩
theorem Beh.det_inv {ok : World → Prop} {g : World → World} {val : World → Value} (h1 : ∀ x d, ok x → ok { x with drawn := d }) (h2 : ∀ x d, g { x with drawn := d } = { g x with drawn := d }) (h3 : ∀ x d, val { x with drawn := d } = val x) : (Beh.det ok g val).Inv := by
  refine fun fz => ⟨fun x _ => ⟨_, _, rfl, rfl⟩, fun x y ⟨d, e, _⟩ h => by rw [e]; exact h1 x d h, fun x y v y' ⟨d, e, hd⟩ ⟨e1, e2⟩ => ⟨g x, ⟨by rw [e1, e, h3], rfl⟩, d, by rw [e2, e, h2], fun hf => ?_⟩⟩
  have : (g x).drawn = x.drawn := by
    have := h2 x x.drawn
    have e3 : ({ x with drawn := x.drawn } : World) = x := rfl
    rw [e3] at this
    rw [this]
  rw [this]; exact hd hf

def Beh.pure (c : Value) : Beh := Beh.det (fun _ => True) id fun _ => c
theorem Beh.pure_inv (c : Value) : (Beh.pure c).Inv := Beh.det_inv (fun _ _ _ => trivial) (fun _ _ => rfl) (fun _ _ => rfl)
/-- In every world of the segment. -/
def Beh.pureI (I : World → Prop) (c : Value) : Beh := Beh.det I id fun _ => c
theorem Beh.pureI_inv {fz : Bool} {I : World → Prop} (hI : ∀ x y, DR fz x y → I x → I y) (c : Value) : (Beh.pureI I c).InvF fz :=
  ⟨fun x _ => ⟨_, _, rfl, rfl⟩, hI, fun x y v y' h ⟨e1, e2⟩ => ⟨x, ⟨e1, rfl⟩, by rw [e2]; exact h⟩⟩

/-- 0: it touches nothing; 1: it reads; 2: it calls; 5: it makes a block; 3: anything else. (7: it calls what touches nothing.) -/
def clsOp : Op → Nat
  | .load .. => 1
  | .call c => match c.callee with
    | .builtin b => match b with
      | .len => 0
      | .cap => 0
      | _ => 3
    | _ => 2
  | .move _ | .assign _ | .pick .. | .build .. | .nilCheck _ | .binOp .. | .unOp .. | .convert .. | .makeInterface .. | .makeFunc .. | .slice .. | .fieldAddr .. | .field .. | .indexAddr .. | .index .. | .extract .. => 0
  | .alloc _ | .box .. | .buildSlice .. | .makeSlice .. => 5
  | _ => 3

def idC (c : Nat) : Bool := c == 0 || c == 1 || c == 2 || c == 7
/-- What a behaviour of a class is like. -/
structure Cls (fz : Bool) (I : World → Prop) (c : Nat) (B : Beh) : Prop where
  inv : B.InvF fz
  keep : ∀ x v x', I x → B.ok x → B.rel x v x' → I x'
  p0 : c = 0 → ∃ v, B = Beh.pureI I v
  p2 : idC c = true → ∃ ok v, B = Beh.det ok id fun _ => v
  p5 : c = 5 → ∃ ok g val, B = Beh.det ok g val
  p7 : c = 7 → ∀ x, I x → B.ok x
  p1 : c = 1 → ∀ x ob, I x → B.ok x → B.ok (x.alloc ob)
  p6 : c = 5 → ∀ x v x', B.rel x v x' → x' = x ∨ ∃ ob, x' = x.alloc ob
def pairB (c d : Nat) : Bool := c == 0 || d == 0 || (idC c && idC d) || (c == 5 && d == 7) || (c == 7 && d == 5) || (c == 1 && d == 5)
def PairOk (c d : Nat) : Prop := pairB c d = true
theorem Cls.pure {fz : Bool} {I : World → Prop} (hI : ∀ x y, DR fz x y → I x → I y) (hA : ∀ x ob, I x → I (x.alloc ob)) (c : Nat) (v : Value) : Cls fz I c (Beh.pureI I v) :=
  ⟨Beh.pureI_inv hI v, fun x v x' h _ ⟨_, e⟩ => by rw [e]; exact h, fun _ => ⟨v, rfl⟩, fun _ => ⟨_, v, rfl⟩, fun _ => ⟨_, _, _, rfl⟩, fun _ x h => h, fun _ x ob _ h => hA x ob h, fun _ x v x' h => .inl (by obtain ⟨_, e⟩ := h; exact e)⟩

section
variable {P : Program} {ops : Array Oper}

def BehRun (P : Program) (o : Oper) (a : Act) (B : Beh) : Prop :=
  ∀ x, B.ok x → (∃ v x', B.rel x v x' ∧ (execOp a.eval o).run P x = .ok (.value v) x') ∨ (∃ x', B.rel x undef x' ∧ (execOp a.eval o).run P x = .ok .skip x') ∨
    (clsOp o.op = 2 ∧ ∃ f args, (execOp a.eval o).run P x = .ok (.enter f args) x ∧ Calls P f args x (fun e w' => ∃ v x' n, e = .returned v ∧ B.rel x v x' ∧ w' = x'.drewN n))

def OpRun (P : Program) (ops : Array Oper) (I : World → Prop) (o : Oper) (a : Act) (B : Beh) : Prop :=
  (Region.wanted o (yielded ops a.tmps) = true ∧ BehRun P o a B) ∨ (Region.wanted o (yielded ops a.tmps) = false ∧ B = Beh.pureI I undef)

theorem OpRun.put {I : World → Prop} {o o' : Oper} {a : Act} {B : Beh} {v : Value} (h : OpRun P ops I o a B) (hs : ∀ cs b, o.op ≠ .select cs b) (hap : ∀ d, o'.dst = some d → d ∉ o.looksAt ops) : OpRun P ops I o (a.put o'.dst v) B := by
  unfold OpRun BehRun at *
  rw [execOp_put o hs a o'.dst v hap, wanted_put o a o'.dst v hap]
  exact h
theorem OpRun.unput {I : World → Prop} {o o' : Oper} {a : Act} {B : Beh} {v : Value} (h : OpRun P ops I o (a.put o'.dst v) B) (hs : ∀ cs b, o.op ≠ .select cs b) (hap : ∀ d, o'.dst = some d → d ∉ o.looksAt ops) : OpRun P ops I o a B := by
  unfold OpRun BehRun at *
  rw [execOp_put o hs a o'.dst v hap, wanted_put o a o'.dst v hap] at h
  exact h

theorem Beh.pureI_inj {I : World → Prop} (w : World) {c d : Value} (h : Beh.pureI I c = Beh.pureI I d) : c = d := by
  have e : (Beh.pureI I c).rel = (Beh.pureI I d).rel := by rw [h]
  have : (Beh.pureI I d).rel w c w := by rw [← e]; exact ⟨rfl, rfl⟩
  exact this.1
theorem OpRun.det {I : World → Prop} {o : Oper} {a : Act} {c d : Value} (w : World) (hI : I w) (h0 : clsOp o.op ≠ 2) (h : OpRun P ops I o a (Beh.pureI I c)) (h' : OpRun P ops I o a (Beh.pureI I d)) : c = d := by
  have key : ∀ e, BehRun P o a (Beh.pureI I e) → (execOp a.eval o).run P w = .ok (.value e) w ∨ (e = undef ∧ (execOp a.eval o).run P w = .ok .skip w) := by
    intro e h
    rcases h w hI with ⟨v, x', ⟨e1, e2⟩, e⟩ | ⟨x', ⟨e1, e2⟩, e⟩ | ⟨e, _⟩
    · rw [e1, e2] at e; exact .inl e
    · rw [e2] at e; exact .inr ⟨e1.symm, e⟩
    · exact absurd e h0
  rcases h with ⟨hw, h⟩ | ⟨hw, h⟩
  · rcases h' with ⟨_, h'⟩ | ⟨hw', _⟩
    · rcases key _ h with e | ⟨e1, e⟩
      · rcases key _ h' with e' | ⟨e2, e'⟩
        · rw [e] at e'; cases e'; rfl
        · rw [e] at e'; cases e'
      · rcases key _ h' with e' | ⟨e2, e'⟩
        · rw [e] at e'; cases e'
        · rw [e1, e2]
    · rw [hw] at hw'; cases hw'
  · rcases h' with ⟨hw', _⟩ | ⟨_, h'⟩
    · rw [hw] at hw'; cases hw'
    · rw [Beh.pureI_inj w h, Beh.pureI_inj w h']

/-- The operations of a list, one behind the other. (cl: their classes.) -/
def LexOk (P : Program) (ops : Array Oper) (fz : Bool) (I : World → Prop) (cl : Nat → Nat) (Q : Act → World → Prop) : List Nat → Act → World → Prop
  | [], a, w => Q a w
  | k :: r, a, w => ∃ o B, ops[k]? = some o ∧ Cls fz I (cl k) B ∧ (cl k = 0 → clsOp o.op ≠ 2) ∧ B.ok w ∧ OpRun P ops I o a B ∧ ∀ v w', B.rel w v w' → LexOk P ops fz I cl Q r (a.put o.dst v) w'

theorem LexOk.swap {fz : Bool} {I : World → Prop} {cl : Nat → Nat} {Q : Act → World → Prop} (hs : Region.noSelect ops = true) {k i : Nat} {ok oi : Oper} (hk : ops[k]? = some ok) (hi : ops[i]? = some oi)
    (hap : ok.apart ops oi = true) (hc : PairOk (cl k) (cl i)) {r : List Nat} {a : Act} {w : World} (hI : I w) (h : LexOk P ops fz I cl Q (k :: i :: r) a w) : LexOk P ops fz I cl Q (i :: k :: r) a w := by
  obtain ⟨o1, Bk, e1, ck, nk, g1, g2, g3⟩ := h
  rw [hk] at e1; cases e1
  obtain ⟨h1, h2, h3⟩ := Oper.apart_spec hap
  have sk := Region.noSelect_spec hs k ok
  have si := Region.noSelect_spec hs i oi
  by_cases hck : idC (cl k) = true
  · obtain ⟨okk, vk, hBk⟩ := ck.p2 hck
    obtain ⟨o2, Bi, e2, ci, ni, g5, g4, g6⟩ := g3 vk w (by rw [hBk]; exact ⟨rfl, rfl⟩)
    rw [hi] at e2; cases e2
    refine ⟨oi, Bi, hi, ci, ni, g5, g4.unput (fun cs b => si cs b hi) h1, fun vb w1 hr => ⟨ok, _, hk, ck, nk, ?_, g2.put (fun cs b => sk cs b hk) h3, ?_⟩⟩
    · have hI1 := ci.keep w vb w1 hI g5 hr
      by_cases h0 : cl k = 0
      · obtain ⟨v, hv⟩ := ck.p0 h0; rw [hv]; exact hI1
      · by_cases h7 : cl k = 7
        · exact ck.p7 h7 w1 hI1
        · by_cases h15 : cl k = 1 ∧ cl i = 5
          · rcases ci.p6 h15.2 w vb w1 hr with rfl | ⟨ob, rfl⟩
            · exact g1
            · exact ck.p1 h15.1 w ob hI g1
          have hd : idC (cl i) = true := by
            unfold PairOk pairB at hc
            simp only [Bool.or_eq_true, Bool.and_eq_true, beq_iff_eq] at hc
            rcases hc with ((((hc | hc) | hc) | hc) | hc) | hc
            · exact absurd hc h0
            · rw [hc]; rfl
            · exact hc.2
            · rw [hc.1] at hck; simp [idC] at hck
            · exact absurd hc.1 h7
            · exact absurd hc h15
          obtain ⟨oki, vi, hBi⟩ := ci.p2 hd
          rw [hBi] at hr
          obtain ⟨_, rfl⟩ := hr
          exact g1
    · intro va w2 hr2
      rw [hBk] at hr2
      obtain ⟨rfl, rfl⟩ := hr2
      have := g6 vb _ hr
      rw [Act.put_comm a _ _ (fun d hd e => h2 d e hd)]
      exact this
  · have hcc : cl i = 0 ∨ (cl k = 5 ∧ cl i = 7) := by
      unfold PairOk pairB at hc
      simp only [Bool.or_eq_true, Bool.and_eq_true, beq_iff_eq] at hc
      rcases hc with ((((hc | hc) | hc) | hc) | hc) | hc
      · rw [hc] at hck; simp [idC] at hck
      · exact .inl hc
      · exact absurd hc.1 hck
      · exact .inr hc
      · rw [hc.1] at hck; simp [idC] at hck
      · rw [hc.1] at hck; simp [idC] at hck
    rcases hcc with hd | ⟨h5, h7⟩
    · obtain ⟨va, w1, hr⟩ := ck.inv.tot w g1
      have hI1 := ck.keep w va w1 hI g1 hr
      obtain ⟨o2, Bi, e2, ci, ni, g5, g4, g6⟩ := g3 va w1 hr
      rw [hi] at e2; cases e2
      obtain ⟨c0, hBi⟩ := ci.p0 hd
      subst hBi
      have hrun := g4.unput (fun cs b => si cs b hi) h1
      refine ⟨oi, _, hi, ci, ni, hI, hrun, ?_⟩
      rintro vb w1' ⟨rfl, rfl⟩
      refine ⟨ok, Bk, hk, ck, nk, g1, g2.put (fun cs b => sk cs b hk) h3, fun va' w2 hr2 => ?_⟩
      have hI2 := ck.keep _ va' w2 hI g1 hr2
      obtain ⟨o2, Bi', e2, ci', ni', g5', g4', g6'⟩ := g3 va' w2 hr2
      rw [hi] at e2; cases e2
      obtain ⟨c', hBi'⟩ := ci'.p0 hd
      subst hBi'
      have hrun' := g4'.unput (fun cs b => si cs b hi) h1
      have := OpRun.det w1 hI1 (ni hd) hrun hrun'
      subst this
      have := g6' _ _ ⟨rfl, rfl⟩
      rw [Act.put_comm a _ _ (fun d hd e => h2 d e hd)]
      exact this
    · obtain ⟨okk, gk, valk, hBk⟩ := ck.p5 h5
      obtain ⟨o2, Bi, e2, ci, ni, g5, g4, g6⟩ := g3 (valk w) (gk w) (by rw [hBk]; exact ⟨rfl, rfl⟩)
      rw [hi] at e2; cases e2
      obtain ⟨oki, vi, hBi⟩ := ci.p2 (by rw [h7]; rfl)
      refine ⟨oi, Bi, hi, ci, ni, ci.p7 h7 w hI, g4.unput (fun cs b => si cs b hi) h1, fun vb w1 hr => ?_⟩
      rw [hBi] at hr
      obtain ⟨rfl, rfl⟩ := hr
      refine ⟨ok, Bk, hk, ck, nk, g1, g2.put (fun cs b => sk cs b hk) h3, fun va w2 hr2 => ?_⟩
      rw [hBk] at hr2
      obtain ⟨rfl, rfl⟩ := hr2
      have := g6 vb _ (by rw [hBi]; exact ⟨rfl, rfl⟩)
      rw [Act.put_comm a _ _ (fun d hd e => h2 d e hd)]
      exact this

theorem LexOk.front {fz : Bool} {I : World → Prop} {cl : Nat → Nat} {Q : Act → World → Prop} (hs : Region.noSelect ops = true) {i : Nat} {oi : Oper} (hi : ops[i]? = some oi) : ∀ (pre post : List Nat) (a : Act) (w : World),
    (∀ k ∈ pre, ∃ ok, ops[k]? = some ok ∧ ok.apart ops oi = true ∧ PairOk (cl k) (cl i)) → I w → LexOk P ops fz I cl Q (pre ++ i :: post) a w → LexOk P ops fz I cl Q (i :: (pre ++ post)) a w
  | [], post, a, w, _, _, h => h
  | k :: pre, post, a, w, hp, hI, h => by
    obtain ⟨ok, hk, hap, hc⟩ := hp k (by simp)
    obtain ⟨o1, B, e1, c1, n1, g1, g2, g3⟩ := h
    rw [hk] at e1; cases e1
    exact LexOk.swap hs hk hi hap hc hI ⟨ok, B, hk, c1, n1, g1, g2, fun v w' hr => LexOk.front hs hi pre post _ _ (fun j hj => hp j (by simp [hj])) (c1.keep _ _ _ hI g1 hr) (g3 v w' hr)⟩

theorem LexOk.dr {fz : Bool} {I : World → Prop} {cl : Nat → Nat} {Q : Act → World → Prop} (hQ : ∀ a w w', DR fz w w' → Q a w → Q a w') : ∀ (l : List Nat) (a : Act) (w w2 : World), DR fz w w2 → LexOk P ops fz I cl Q l a w → LexOk P ops fz I cl Q l a w2
  | [], a, w, w2, hd, h => hQ a w w2 hd h
  | k :: r, a, w, w2, hd, h => by
    obtain ⟨o, B, h1, hc, hn, h2, h3, h4⟩ := h
    refine ⟨o, B, h1, hc, hn, hc.inv.ok w w2 hd h2, h3, fun v w' hr => ?_⟩
    obtain ⟨x', hr', hd'⟩ := hc.inv.rel w w2 v w' hd hr
    exact LexOk.dr hQ r _ _ _ hd' (h4 v x' hr')

/-- i stands before k in every order that the edges allow. -/
def ordB (ops : Array Oper) : Nat → Nat → Nat → Bool
  | 0, _, _ => false
  | fuel + 1, i, k => match ops[k]? with
    | none => false
    | some o => o.after.any fun e => Region.binds .any e && (e.on == i || ordB ops fuel i e.on)

def Down (ops : Array Oper) (listed : Array Bool) : Prop := ∀ j o, ops[j]? = some o → listed.getD j false = true → ∀ e ∈ o.after, Region.binds .any e = true → listed.getD e.on false = true

theorem ordB_sound {listed : Array Bool} (hd : Down ops listed) : ∀ (fuel i k : Nat) (o : Oper), ops[k]? = some o → ordB ops fuel i k = true → (∀ e ∈ o.after, Region.binds .any e = true → listed.getD e.on false = true) →
    listed.getD i false = true := by
  intro fuel
  induction fuel with
  | zero => intro i k o _ h; simp [ordB] at h
  | succ fuel ih =>
    intro i k o ho h hall
    unfold ordB at h
    rw [ho] at h
    simp only at h
    obtain ⟨e, he, hb⟩ := Array.any_eq_true'.1 h
    simp only [Bool.and_eq_true, Bool.or_eq_true, beq_iff_eq] at hb
    obtain ⟨h1, h2⟩ := hb
    have hl := hall e he h1
    rcases h2 with h2 | h2
    · subst h2; exact hl
    · cases hoe : ops[e.on]? with
      | none =>
        cases fuel with
        | zero => simp [ordB] at h2
        | succ f => simp [ordB, hoe] at h2
      | some oe => exact ih i e.on oe hoe h2 (hd e.on oe hoe hl)

def Before (ops : Array Oper) (i k : Nat) : Prop := ∃ F, ordB ops F i k = true
theorem before_sound {listed : Array Bool} (hd : Down ops listed) (i k : Nat) (o : Oper) (h1 : ops[k]? = some o) (h : Before ops i k) (h2 : ∀ e ∈ o.after, Region.binds .any e = true → listed.getD e.on false = true) :
    listed.getD i false = true := let ⟨F, h⟩ := h; ordB_sound hd F i k o h1 h h2

theorem wpOp_of_run {I : World → Prop} {B : Beh} {i : Nat} {o : Oper} {a : Act} {w : World} {K : Act → World → Prop} {Q : Exit → Act → World → Prop} (hi : ops[i]? = some o) (hok : B.ok w) (h : OpRun P ops I o a B)
    (hK : ∀ v w' n, B.rel w v w' → K (a.put o.dst v) (w'.drewN n)) : wpOp P ops Q i K a w := by
  unfold wpOp
  simp only [hi]
  rcases h with ⟨hw, h⟩ | ⟨hw, rfl⟩
  · rw [if_pos hw]
    refine .inl ?_
    unfold Oper.wp
    rcases h w hok with ⟨v, x', hr, h⟩ | ⟨x', hr, h⟩ | ⟨_, f, args, h, hc⟩
    · rw [h]; exact hK v x' 0 hr
    · rw [h]; exact hK undef x' 0 hr
    · rw [h]
      refine hc.mono fun e w' he => ?_
      obtain ⟨v, x', n, rfl, hr, rfl⟩ := he
      exact hK v x' n hr
  · rw [if_neg (by simp [hw])]
    exact hK undef w 0 ⟨rfl, rfl⟩

/-- All that stand ahead of s are listed, and no others. -/
def listedTo (n s : Nat) : Array Bool := (Array.range n).map fun j => decide (j < s)
theorem listedTo_getD {n s j : Nat} (hj : j < n) : (listedTo n s).getD j false = decide (j < s) := by simp [listedTo, hj]
theorem listedTo_size (n s : Nat) : (listedTo n s).size = n := by simp [listedTo]
theorem listedTo_ext {listed : Array Bool} {n s : Nat} (h1 : listed.size = n) (h2 : ∀ j, j < n → listed.getD j false = decide (j < s)) : listed = listedTo n s := by
  apply Array.ext (by rw [h1, listedTo_size])
  intro j hj1 hj2
  have := h2 j (by omega)
  rw [← listedTo_getD (s := s) (by omega : j < n)] at this
  simpa [hj1, hj2] using this

theorem any_seg {fz : Bool} {I : World → Prop} (hII : ∀ x y, DR fz x y → I x → I y) {cl : Nat → Nat} {Q : Exit → Act → World → Prop} {Q' : Act → World → Prop} (hQ : ∀ a w w', DR fz w w' → Q' a w → Q' a w') (hs : Region.noSelect ops = true) (stop : Nat)
    (hlow : ∀ (k : Nat) o, ops[k]? = some o → ∀ e ∈ o.after, Region.binds .any e = true → e.on < k) (hst : stop ≤ ops.size) (start : Nat)
    (hp : ∀ k i ok oi, start ≤ k → k < i → i < stop → ops[k]? = some ok → ops[i]? = some oi → Before ops k i ∨ (ok.apart ops oi = true ∧ PairOk (cl k) (cl i)))
    (hbar : ∀ k i oi, start ≤ k → k < stop → stop ≤ i → ops[i]? = some oi → Before ops k i)
    (H : ∀ a w, Q' a w → wpAny P .any ops Q (ops.size - stop) (listedTo ops.size stop) a w) :
    ∀ (rem : List Nat) (listed : Array Bool) (a : Act) (w : World), Down ops listed → rem.Pairwise (· < ·) → (∀ j, j ∈ rem ↔ (j < ops.size ∧ listed.getD j false = false ∧ j < stop)) → (∀ j, j ∈ rem → start ≤ j) →
      (∀ j, stop ≤ j → listed.getD j false = false) → listed.size = ops.size → I w → LexOk P ops fz I cl Q' rem a w → wpAny P .any ops Q (ops.size - stop + rem.length) listed a w := by
  intro rem
  generalize hlen : rem.length = len
  induction len generalizing rem with
  | zero =>
    intro listed a w hd hsorted hrem hstart habove hsz hI h
    have : rem = [] := List.length_eq_zero_iff.1 hlen
    subst this
    have e : listed = listedTo ops.size stop := listedTo_ext hsz fun j hj => by
      by_cases hjs : j < stop
      · simp only [hjs, decide_true]
        cases hl : listed.getD j false with
        | true => rfl
        | false => have := (hrem j).2 ⟨hj, hl, hjs⟩; simp at this
      · rw [habove j (by omega)]; simp [hjs]
    rw [e]
    exact H a w h
  | succ len ih =>
    intro listed a w hd hsorted hrem hstart habove hsz hI h
    show wpAny P .any ops Q (ops.size - stop + len + 1) listed a w
    refine ⟨fun hr => ?_, fun i hi => ?_⟩
    · cases rem with
      | nil => simp at hlen
      | cons k r =>
        exfalso
        have hk := (hrem k).1 (by simp)
        have hmem : k ∈ Region.ready .any ops listed := by
          rw [mem_ready]
          refine ⟨by have := hk.2.1; simp [hsz, hk.1] at this ⊢; exact this, ops[k]'hk.1, by simp [hk.1], ?_⟩
          intro e he hb
          have hek := hlow k _ (by simp [hk.1]) e he hb
          cases hl : listed.getD e.on false with
          | true => rfl
          | false =>
            have hm := (hrem e.on).2 ⟨by omega, hl, by omega⟩
            rcases List.mem_cons.1 hm with hm | hm
            · omega
            · have := (List.pairwise_cons.1 hsorted).1 e.on hm; omega
        rw [hr] at hmem; simp at hmem
    · obtain ⟨h0, oi, hoi, hall⟩ := mem_ready.1 hi
      have hlt := (Array.getElem?_eq_some_iff.1 hoi).1
      have histop : i < stop := by
        rcases Nat.lt_or_ge i stop with hi' | hi'
        · exact hi'
        · exfalso
          cases rem with
          | nil => simp at hlen
          | cons k r =>
            have hk := (hrem k).1 (by simp)
            have := before_sound hd k i oi hoi (hbar k i oi (hstart k (by simp)) hk.2.2 hi' hoi) hall
            rw [hk.2.1] at this; cases this
      have hmem : i ∈ rem := (hrem i).2 ⟨hlt, by simp [hsz, hlt] at h0 ⊢; exact h0, histop⟩
      obtain ⟨pre, post, rfl⟩ := List.append_of_mem hmem
      rw [List.pairwise_append] at hsorted
      obtain ⟨s1, s2, s3⟩ := hsorted
      have hfront := LexOk.front hs hoi pre post a w (fun k hk => by
        have hklt : k < i := s3 k hk i (by simp)
        have hk' := (hrem k).1 (by simp [hk])
        have hok : ops[k]? = some (ops[k]'hk'.1) := by simp [hk'.1]
        refine ⟨_, hok, ?_⟩
        rcases hp k i _ oi (hstart k (by simp [hk])) hklt histop hok hoi with h1 | h1
        · have := before_sound hd k i oi hoi h1 hall
          rw [hk'.2.1] at this; cases this
        · exact h1) hI h
      obtain ⟨o, B, e1, c1, n1, g1, g2, g3⟩ := hfront
      rw [hoi] at e1; cases e1
      refine wpOp_of_run hoi g1 g2 fun v w' n hr => ?_
      have hnot : i ∉ pre ++ post := by
        intro hm
        rcases List.mem_append.1 hm with hm | hm
        · have := s3 i hm i (by simp); omega
        · rw [List.pairwise_cons] at s2
          have := s2.1 i hm; omega
      refine ih (pre ++ post) (by simp at hlen ⊢; omega) (listed.setIfInBounds i true) _ _ ?_ ?_ ?_ (fun j hj => hstart j (by simp at hj ⊢; rcases hj with hj | hj <;> simp [hj])) ?_ (by simp [hsz]) (hII _ _ (DR.drewN fz _ n) (c1.keep _ _ _ hI g1 hr)) (LexOk.dr hQ _ _ _ _ (DR.drewN fz _ n) (g3 v w' hr))
      · intro j o' ho' hj e he hb
        by_cases hij : i = j
        · subst hij
          rw [hoi] at ho'; cases ho'
          exact getD_set_true (hall e he hb)
        · rw [getD_set_ne false hij] at hj
          exact getD_set_true (hd j o' ho' hj e he hb)
      · rw [List.pairwise_append]
        rw [List.pairwise_cons] at s2
        exact ⟨s1, s2.2, fun x hx y hy => s3 x hx y (by simp [hy])⟩
      · intro j
        by_cases hij : i = j
        · subst hij
          constructor
          · intro hm; exact absurd hm hnot
          · rintro ⟨_, hm, _⟩
            simp [hsz, hlt] at hm
        · rw [getD_set_ne false hij, ← hrem j]
          simp only [List.mem_append, List.mem_cons]
          constructor
          · rintro (h | h)
            · exact .inl h
            · exact .inr (.inr h)
          · rintro (h | h | h)
            · exact .inl h
            · exact absurd h.symm hij
            · exact .inr h
      · intro j hj
        rw [getD_set_ne false (by omega)]; exact habove j hj

theorem down_listedTo (hlow : ∀ (k : Nat) o, ops[k]? = some o → ∀ e ∈ o.after, Region.binds .any e = true → e.on < k) (s : Nat) : Down ops (listedTo ops.size s) := by
  intro j o ho hj e he hb
  have hlt := (Array.getElem?_eq_some_iff.1 ho).1
  have := hlow j o ho e he hb
  rw [listedTo_getD hlt] at hj
  rw [listedTo_getD (by omega)]
  simp only [decide_eq_true_eq] at hj ⊢
  omega

/-- From one number to another: those operations, in whatever order. -/
theorem wpAny_seg {fz : Bool} {I : World → Prop} (hII : ∀ x y, DR fz x y → I x → I y) {cl : Nat → Nat} {Q : Exit → Act → World → Prop} {Q' : Act → World → Prop} (hQ : ∀ a w w', DR fz w w' → Q' a w → Q' a w') (hs : Region.noSelect ops = true) (stop : Nat)
    (hlow : ∀ (k : Nat) o, ops[k]? = some o → ∀ e ∈ o.after, Region.binds .any e = true → e.on < k) (hst : stop ≤ ops.size) (start : Nat) (hss : start ≤ stop)
    (hp : ∀ k i ok oi, start ≤ k → k < i → i < stop → ops[k]? = some ok → ops[i]? = some oi → Before ops k i ∨ (ok.apart ops oi = true ∧ PairOk (cl k) (cl i)))
    (hbar : ∀ k i oi, start ≤ k → k < stop → stop ≤ i → ops[i]? = some oi → Before ops k i)
    (H : ∀ a w, Q' a w → wpAny P .any ops Q (ops.size - stop) (listedTo ops.size stop) a w) {a : Act} {w : World} (hI : I w)
    (h : LexOk P ops fz I cl Q' (List.range' start (stop - start)) a w) : wpAny P .any ops Q (ops.size - start) (listedTo ops.size start) a w := by
  have := any_seg hII hQ hs stop hlow hst start hp hbar H (List.range' start (stop - start)) (listedTo ops.size start) a w (down_listedTo hlow start) (List.pairwise_lt_range' (s := start) (n := stop - start) (step := 1) (by omega))
    (fun j => by
      rw [List.mem_range'_1]
      constructor
      · intro hj
        refine ⟨by omega, ?_, by omega⟩
        rw [listedTo_getD (by omega)]; simp; omega
      · rintro ⟨h1, h2, h3⟩
        rw [listedTo_getD h1] at h2
        simp at h2; omega)
    (fun j hj => by rw [List.mem_range'_1] at hj; omega)
    (fun j hj => by
      by_cases hjs : j < ops.size
      · rw [listedTo_getD hjs]; simp; omega
      · simp [listedTo, hjs])
    (listedTo_size _ _) hI h
  rw [List.length_range', show ops.size - stop + (stop - start) = ops.size - start by omega] at this
  exact this

/-- One operation that nothing else may pass. -/
theorem wpAny_bar {Q : Exit → Act → World → Prop} (k : Nat) (hlow : ∀ (k : Nat) o, ops[k]? = some o → ∀ e ∈ o.after, Region.binds .any e = true → e.on < k) {o : Oper} (hk : ops[k]? = some o)
    (hbar : ∀ i oi, k < i → ops[i]? = some oi → Before ops k i) {a : Act} {w : World}
    (h : wpOp P ops Q k (wpAny P .any ops Q (ops.size - (k + 1)) (listedTo ops.size (k + 1))) a w) : wpAny P .any ops Q (ops.size - k) (listedTo ops.size k) a w := by
  have hlt := (Array.getElem?_eq_some_iff.1 hk).1
  rw [show ops.size - k = ops.size - (k + 1) + 1 by omega]
  have hready : ∀ i, i ∈ Region.ready .any ops (listedTo ops.size k) → i = k := by
    intro i hi
    obtain ⟨h0, oi, hoi, hall⟩ := mem_ready.1 hi
    have hil := (Array.getElem?_eq_some_iff.1 hoi).1
    rcases Nat.lt_trichotomy i k with hik | hik | hik
    · simp [listedTo, hil] at h0; omega
    · exact hik
    · have := before_sound (down_listedTo hlow k) k i oi hoi (hbar i oi hik hoi) hall
      rw [listedTo_getD hlt] at this; simp at this
  have hkr : k ∈ Region.ready .any ops (listedTo ops.size k) := by
    rw [mem_ready]
    refine ⟨by simp [listedTo, hlt], o, hk, fun e he hb => ?_⟩
    have := hlow k o hk e he hb
    rw [listedTo_getD (by omega)]; simpa using this
  have hset : (listedTo ops.size k).setIfInBounds k true = listedTo ops.size (k + 1) := listedTo_ext (by simp [listedTo]) fun j hj => by
    by_cases hjk : k = j
    · subst hjk; simp [listedTo, hj]
    · rw [getD_set_ne false hjk, listedTo_getD hj]
      have : (j < k) ↔ (j < k + 1) := by omega
      simp [this]
  refine ⟨fun h0 => ?_, fun i hi => ?_⟩
  · rw [h0] at hkr; simp at hkr
  · rw [hready i hi, hset]; exact h

theorem wpAny_end {Q : Exit → Act → World → Prop} {a : Act} {w : World} (h : Q .normal a w) : wpAny P .any ops Q (ops.size - ops.size) (listedTo ops.size ops.size) a w := by
  rw [Nat.sub_self]
  refine ⟨?_, h⟩
  apply List.eq_nil_iff_forall_not_mem.2
  intro j hj
  obtain ⟨h0, o, ho, _⟩ := mem_ready.1 hj
  have hlt := (Array.getElem?_eq_some_iff.1 ho).1
  simp [listedTo, hlt] at h0

theorem wp_draw {id : Nat} (hm : P.follows .mixedOrders = true) {Q : Exit → Act → World → Prop} {a : Act} {w : World}
    (h : wpAny P .any ops Q (ops.size - 0) (listedTo ops.size 0) a (w.drewN 1)) : (Code.region id ops true).wp P Q a w := by
  refine wp_region_any hm ?_
  have e : listedTo ops.size 0 = Array.replicate ops.size false := by
    apply Array.ext (by simp [listedTo])
    intro j h1 h2
    simp [listedTo]
  rw [e] at h
  exact h

/-- The checks of a region by computation. -/
def lowB (ops : List Oper) : Bool := ops.zipIdx.all fun x => x.1.after.all fun e => !Region.binds .any e || decide (e.on < x.2)
theorem lowB_sound {ops : Array Oper} (h : lowB ops.toList = true) (k : Nat) (o : Oper) (ho : ops[k]? = some o) (e : Edge) (he : e ∈ o.after) (hb : Region.binds .any e = true) : e.on < k := by
  unfold lowB at h
  rw [List.all_eq_true] at h
  have hm : (o, k) ∈ ops.toList.zipIdx := by
    rw [List.mem_zipIdx_iff_getElem?]
    simpa using ho
  have h1 := Array.all_eq_true_iff_forall_mem.1 (h _ hm) e he
  simp only [hb, Bool.not_true, Bool.false_or, decide_eq_true_eq] at h1
  exact h1

end
end Go.Vex
end

/-
  VEX, part 2: reading and writing the cells of a resource, by symbolic values and in the world.
-/
section
namespace Go.Vex
noncomputable section

/-! ### Leaves: operations on expressions. The evaluator cannot look into them: each is what 'leafR' says, by an equation (a constant that is chosen). -/
structure LeafT where
  gi : ∀ (zs : List Int) (n : Nat), Int
  setI : ∀ (zs : List Int) (n : Nat) (z : Int), List Int
  upd : ∀ (f : Nat → List SV) (i : Nat) (l : List SV), (Nat → List SV)
  nLt : ∀ (a b : Nat), Prop
  nLe : ∀ (a b : Nat), Prop
  inR : ∀ (i : Int) (n : Nat), Prop
  toN : ∀ (i : Int), Nat
  addN : ∀ (a b : Nat), Nat
  addI : ∀ (k : IntKind) (a b : Int), Int
  subI : ∀ (k : IntKind) (a b : Int), Int
  mulI : ∀ (k : IntKind) (a b : Int), Int
  quoI : ∀ (k : IntKind) (a b : Int), Int
  remI : ∀ (a b : Int), Int
  andI : ∀ (k : IntKind) (a b : Int), Int
  orI : ∀ (k : IntKind) (a b : Int), Int
  xorI : ∀ (k : IntKind) (a b : Int), Int
  clrI : ∀ (k : IntKind) (a b : Int), Int
  shlI : ∀ (k : IntKind) (a n : Int), Int
  shrI : ∀ (k : IntKind) (a n : Int), Int
  convI : ∀ (k : IntKind) (a : Int), Int
  cplI : ∀ (k : IntKind) (a : Int), Int
  eqI : ∀ (a b : Int), Bool
  ltI : ∀ (a b : Int), Bool
  leI : ∀ (a b : Int), Bool
  eqB : ∀ (a b : Bool), Bool
  notB : ∀ (a : Bool), Bool
  andB : ∀ (a b : Bool), Bool
  neZ : ∀ (a : Int), Prop
  geZ : ∀ (a : Int), Prop
  leR : ∀ (i : Int) (n : Nat), Prop
  subN : ∀ (a b : Nat), Nat
  shN : ∀ (cap o l : Nat), Nat
  ofN : ∀ (n : Nat), Int
  mkOk : ∀ (len cap : Int) (bytes : Nat), Prop
  zerosI : ∀ (n : Nat), List Int
  Br : ∀ (t : Bool) (A B : Unit → Prop), Prop
  appI : ∀ (a b : List Int), List Int
  jn : ∀ (f g : Nat → List SV) (m : Nat), (Nat → List SV)
  apOk : ∀ (need bytes : Nat), Prop
  eqN : ∀ (a b : Nat), Prop
  AllN : ∀ (n : Nat) (K : Nat → Prop), Prop
  chunk : ∀ (l : List SV) (w : Nat), (Nat → List SV)
  eqL : ∀ (a b : List Int), Bool
  takI : ∀ (n : Nat) (zs : List Int), List Int
  drpI : ∀ (n : Nat) (zs : List Int), List Int
def leafR : LeafT where
  gi := fun zs n => zs.getD n 0
  setI := fun zs n z => zs.set n z
  upd := fun f i l => fun j => if j = i then l else f j
  nLt := fun a b => a < b
  nLe := fun a b => a ≤ b
  inR := fun i n => 0 ≤ i ∧ i < n
  toN := fun i => i.toNat
  addN := fun a b => a + b
  addI := fun k a b => k.wrap (a + b)
  subI := fun k a b => k.wrap (a - b)
  mulI := fun k a b => k.wrap (a * b)
  quoI := fun k a b => k.wrap (a.tdiv b)
  remI := fun a b => a.tmod b
  andI := fun k a b => k.wrap (BitVec.ofInt k.bits a &&& BitVec.ofInt k.bits b).toNat
  orI := fun k a b => k.wrap (BitVec.ofInt k.bits a ||| BitVec.ofInt k.bits b).toNat
  xorI := fun k a b => k.wrap (BitVec.ofInt k.bits a ^^^ BitVec.ofInt k.bits b).toNat
  clrI := fun k a b => k.wrap (BitVec.ofInt k.bits a &&& ~~~ BitVec.ofInt k.bits b).toNat
  shlI := fun k a n => k.wrap (a * 2 ^ min n.toNat k.bits)
  shrI := fun k a n => a.fdiv (2 ^ min n.toNat k.bits)
  convI := fun k a => k.wrap a
  cplI := fun k a => k.wrap (BitVec.ofInt k.bits (if k.signed then -1 else k.max) ^^^ BitVec.ofInt k.bits a).toNat
  eqI := fun a b => a == b
  ltI := fun a b => decide (a < b)
  leI := fun a b => decide (a ≤ b)
  eqB := fun a b => a == b
  notB := fun a => !a
  andB := fun a b => a && b
  neZ := fun a => a ≠ 0
  geZ := fun a => 0 ≤ a
  leR := fun i n => 0 ≤ i ∧ i ≤ n
  subN := fun a b => a - b
  shN := fun cap o l => if cap = l then o else o + l
  ofN := fun n => (n : Int)
  mkOk := fun len cap bytes => 0 ≤ len ∧ len ≤ cap ∧ (bytes : Int) * cap ≤ 281474976710656
  zerosI := fun n => List.replicate n 0
  Br := fun t A B => (t = true → A ()) ∧ (t = false → B ())
  appI := fun a b => a ++ b
  jn := fun f g m => fun j => if j < m then f j else g (j - m)
  apOk := fun need bytes => need * bytes ≤ 140737488355328 ∧ need ≤ 140737488355328
  eqN := fun a b => a = b
  AllN := fun n K => ∀ c, n ≤ c → K c
  chunk := fun l w => fun j => (l.drop (j * w)).take w
  eqL := fun a b => a == b
  takI := fun n zs => zs.take n
  drpI := fun n zs => zs.drop n
noncomputable def leaf : { L : LeafT // L = leafR } := Classical.choice ⟨⟨leafR, rfl⟩⟩
noncomputable def gi (zs : List Int) (n : Nat) : Int := leaf.1.gi zs n
theorem gi_eq (zs : List Int) (n : Nat) : gi zs n = (zs.getD n 0) := by unfold gi; rw [leaf.2]; rfl
noncomputable def setI (zs : List Int) (n : Nat) (z : Int) : List Int := leaf.1.setI zs n z
theorem setI_eq (zs : List Int) (n : Nat) (z : Int) : setI zs n z = (zs.set n z) := by unfold setI; rw [leaf.2]; rfl
noncomputable def upd (f : Nat → List SV) (i : Nat) (l : List SV) : (Nat → List SV) := leaf.1.upd f i l
theorem upd_eq (f : Nat → List SV) (i : Nat) (l : List SV) : upd f i l = (fun j => if j = i then l else f j) := by unfold upd; rw [leaf.2]; rfl
noncomputable def nLt (a b : Nat) : Prop := leaf.1.nLt a b
theorem nLt_eq (a b : Nat) : nLt a b = (a < b) := by unfold nLt; rw [leaf.2]; rfl
noncomputable def nLe (a b : Nat) : Prop := leaf.1.nLe a b
theorem nLe_eq (a b : Nat) : nLe a b = (a ≤ b) := by unfold nLe; rw [leaf.2]; rfl
noncomputable def inR (i : Int) (n : Nat) : Prop := leaf.1.inR i n
theorem inR_eq (i : Int) (n : Nat) : inR i n = (0 ≤ i ∧ i < n) := by unfold inR; rw [leaf.2]; rfl
noncomputable def toN (i : Int) : Nat := leaf.1.toN i
theorem toN_eq (i : Int) : toN i = (i.toNat) := by unfold toN; rw [leaf.2]; rfl
noncomputable def addN (a b : Nat) : Nat := leaf.1.addN a b
theorem addN_eq (a b : Nat) : addN a b = (a + b) := by unfold addN; rw [leaf.2]; rfl
noncomputable def addI (k : IntKind) (a b : Int) : Int := leaf.1.addI k a b
theorem addI_eq (k : IntKind) (a b : Int) : addI k a b = (k.wrap (a + b)) := by unfold addI; rw [leaf.2]; rfl
noncomputable def subI (k : IntKind) (a b : Int) : Int := leaf.1.subI k a b
theorem subI_eq (k : IntKind) (a b : Int) : subI k a b = (k.wrap (a - b)) := by unfold subI; rw [leaf.2]; rfl
noncomputable def mulI (k : IntKind) (a b : Int) : Int := leaf.1.mulI k a b
theorem mulI_eq (k : IntKind) (a b : Int) : mulI k a b = (k.wrap (a * b)) := by unfold mulI; rw [leaf.2]; rfl
noncomputable def quoI (k : IntKind) (a b : Int) : Int := leaf.1.quoI k a b
theorem quoI_eq (k : IntKind) (a b : Int) : quoI k a b = (k.wrap (a.tdiv b)) := by unfold quoI; rw [leaf.2]; rfl
noncomputable def remI (a b : Int) : Int := leaf.1.remI a b
theorem remI_eq (a b : Int) : remI a b = (a.tmod b) := by unfold remI; rw [leaf.2]; rfl
noncomputable def andI (k : IntKind) (a b : Int) : Int := leaf.1.andI k a b
theorem andI_eq (k : IntKind) (a b : Int) : andI k a b = (k.wrap (BitVec.ofInt k.bits a &&& BitVec.ofInt k.bits b).toNat) := by unfold andI; rw [leaf.2]; rfl
noncomputable def orI (k : IntKind) (a b : Int) : Int := leaf.1.orI k a b
theorem orI_eq (k : IntKind) (a b : Int) : orI k a b = (k.wrap (BitVec.ofInt k.bits a ||| BitVec.ofInt k.bits b).toNat) := by unfold orI; rw [leaf.2]; rfl
noncomputable def xorI (k : IntKind) (a b : Int) : Int := leaf.1.xorI k a b
theorem xorI_eq (k : IntKind) (a b : Int) : xorI k a b = (k.wrap (BitVec.ofInt k.bits a ^^^ BitVec.ofInt k.bits b).toNat) := by unfold xorI; rw [leaf.2]; rfl
noncomputable def clrI (k : IntKind) (a b : Int) : Int := leaf.1.clrI k a b
theorem clrI_eq (k : IntKind) (a b : Int) : clrI k a b = (k.wrap (BitVec.ofInt k.bits a &&& ~~~ BitVec.ofInt k.bits b).toNat) := by unfold clrI; rw [leaf.2]; rfl
noncomputable def shlI (k : IntKind) (a n : Int) : Int := leaf.1.shlI k a n
theorem shlI_eq (k : IntKind) (a n : Int) : shlI k a n = (k.wrap (a * 2 ^ min n.toNat k.bits)) := by unfold shlI; rw [leaf.2]; rfl
noncomputable def shrI (k : IntKind) (a n : Int) : Int := leaf.1.shrI k a n
theorem shrI_eq (k : IntKind) (a n : Int) : shrI k a n = (a.fdiv (2 ^ min n.toNat k.bits)) := by unfold shrI; rw [leaf.2]; rfl
noncomputable def convI (k : IntKind) (a : Int) : Int := leaf.1.convI k a
theorem convI_eq (k : IntKind) (a : Int) : convI k a = (k.wrap a) := by unfold convI; rw [leaf.2]; rfl
noncomputable def cplI (k : IntKind) (a : Int) : Int := leaf.1.cplI k a
theorem cplI_eq (k : IntKind) (a : Int) : cplI k a = (k.wrap (BitVec.ofInt k.bits (if k.signed then -1 else k.max) ^^^ BitVec.ofInt k.bits a).toNat) := by unfold cplI; rw [leaf.2]; rfl
noncomputable def eqI (a b : Int) : Bool := leaf.1.eqI a b
theorem eqI_eq (a b : Int) : eqI a b = (a == b) := by unfold eqI; rw [leaf.2]; rfl
noncomputable def ltI (a b : Int) : Bool := leaf.1.ltI a b
theorem ltI_eq (a b : Int) : ltI a b = (decide (a < b)) := by unfold ltI; rw [leaf.2]; rfl
noncomputable def leI (a b : Int) : Bool := leaf.1.leI a b
theorem leI_eq (a b : Int) : leI a b = (decide (a ≤ b)) := by unfold leI; rw [leaf.2]; rfl
noncomputable def eqB (a b : Bool) : Bool := leaf.1.eqB a b
theorem eqB_eq (a b : Bool) : eqB a b = (a == b) := by unfold eqB; rw [leaf.2]; rfl
noncomputable def notB (a : Bool) : Bool := leaf.1.notB a
theorem notB_eq (a : Bool) : notB a = (!a) := by unfold notB; rw [leaf.2]; rfl
noncomputable def andB (a b : Bool) : Bool := leaf.1.andB a b
theorem andB_eq (a b : Bool) : andB a b = (a && b) := by unfold andB; rw [leaf.2]; rfl
noncomputable def neZ (a : Int) : Prop := leaf.1.neZ a
theorem neZ_eq (a : Int) : neZ a = (a ≠ 0) := by unfold neZ; rw [leaf.2]; rfl
noncomputable def geZ (a : Int) : Prop := leaf.1.geZ a
theorem geZ_eq (a : Int) : geZ a = (0 ≤ a) := by unfold geZ; rw [leaf.2]; rfl
noncomputable def leR (i : Int) (n : Nat) : Prop := leaf.1.leR i n
theorem leR_eq (i : Int) (n : Nat) : leR i n = (0 ≤ i ∧ i ≤ n) := by unfold leR; rw [leaf.2]; rfl
noncomputable def subN (a b : Nat) : Nat := leaf.1.subN a b
theorem subN_eq (a b : Nat) : subN a b = (a - b) := by unfold subN; rw [leaf.2]; rfl
noncomputable def shN (cap o l : Nat) : Nat := leaf.1.shN cap o l
theorem shN_eq (cap o l : Nat) : shN cap o l = (if cap = l then o else o + l) := by unfold shN; rw [leaf.2]; rfl
noncomputable def ofN (n : Nat) : Int := leaf.1.ofN n
theorem ofN_eq (n : Nat) : ofN n = ((n : Int)) := by unfold ofN; rw [leaf.2]; rfl
noncomputable def mkOk (len cap : Int) (bytes : Nat) : Prop := leaf.1.mkOk len cap bytes
theorem mkOk_eq (len cap : Int) (bytes : Nat) : mkOk len cap bytes = (0 ≤ len ∧ len ≤ cap ∧ (bytes : Int) * cap ≤ 281474976710656) := by unfold mkOk; rw [leaf.2]; rfl
noncomputable def zerosI (n : Nat) : List Int := leaf.1.zerosI n
theorem zerosI_eq (n : Nat) : zerosI n = (List.replicate n 0) := by unfold zerosI; rw [leaf.2]; rfl
noncomputable def Br (t : Bool) (A B : Unit → Prop) : Prop := leaf.1.Br t A B
theorem Br_eq (t : Bool) (A B : Unit → Prop) : Br t A B = ((t = true → A ()) ∧ (t = false → B ())) := by unfold Br; rw [leaf.2]; rfl
noncomputable def appI (a b : List Int) : List Int := leaf.1.appI a b
theorem appI_eq (a b : List Int) : appI a b = (a ++ b) := by unfold appI; rw [leaf.2]; rfl
noncomputable def jn (f g : Nat → List SV) (m : Nat) : (Nat → List SV) := leaf.1.jn f g m
theorem jn_eq (f g : Nat → List SV) (m : Nat) : jn f g m = (fun j => if j < m then f j else g (j - m)) := by unfold jn; rw [leaf.2]; rfl
noncomputable def apOk (need bytes : Nat) : Prop := leaf.1.apOk need bytes
theorem apOk_eq (need bytes : Nat) : apOk need bytes = (need * bytes ≤ 140737488355328 ∧ need ≤ 140737488355328) := by unfold apOk; rw [leaf.2]; rfl
noncomputable def eqN (a b : Nat) : Prop := leaf.1.eqN a b
theorem eqN_eq (a b : Nat) : eqN a b = (a = b) := by unfold eqN; rw [leaf.2]; rfl
noncomputable def AllN (n : Nat) (K : Nat → Prop) : Prop := leaf.1.AllN n K
theorem AllN_eq (n : Nat) (K : Nat → Prop) : AllN n K = (∀ c, n ≤ c → K c) := by unfold AllN; rw [leaf.2]; rfl
noncomputable def chunk (l : List SV) (w : Nat) : (Nat → List SV) := leaf.1.chunk l w
theorem chunk_eq (l : List SV) (w : Nat) : chunk l w = (fun j => (l.drop (j * w)).take w) := by unfold chunk; rw [leaf.2]; rfl
noncomputable def eqL (a b : List Int) : Bool := leaf.1.eqL a b
theorem eqL_eq (a b : List Int) : eqL a b = (a == b) := by unfold eqL; rw [leaf.2]; rfl
noncomputable def takI (n : Nat) (zs : List Int) : List Int := leaf.1.takI n zs
theorem takI_eq (n : Nat) (zs : List Int) : takI n zs = zs.take n := by unfold takI; rw [leaf.2]; rfl
noncomputable def drpI (n : Nat) (zs : List Int) : List Int := leaf.1.drpI n zs
theorem drpI_eq (n : Nat) (zs : List Int) : drpI n zs = zs.drop n := by unfold drpI; rw [leaf.2]; rfl

/-- How many cells a symbolic value fills, if that is a numeral. -/
def sizeS : SV → Option Nat
  | .ints _ (.lit m) _ => some m
  | .ints _ (.ex _) _ => none
  | .rows w (.lit m) _ => some (m * w)
  | .rows _ (.ex _) _ => none
  | .junk w (.lit m) => some (m * w)
  | .junk _ (.ex _) => none
  | _ => some 1

def single : SV → Bool
  | .ints .. | .rows .. | .junk .. => false
  | _ => true

/-- An element of a row: all of a row's are single. -/
def nthS : List SV → Nat → Option SV
  | [], _ => none
  | v :: r, n => if single v then (if n = 0 then some v else nthS r (n - 1)) else none

def getAt : List SV → Nat → (SV → Prop) → Prop
  | [], _, _ => False
  | v :: r, n, K =>
    match v with
    | .ints k m zs =>
      match m with
      | .lit m => if n < m then K (.i k (.ex (gi zs n))) else getAt r (n - m) K
      | .ex m => nLt n m ∧ K (.i k (.ex (gi zs n)))
    | .rows w m f =>
      match m with
      | .lit m => if n < m * w then (match nthS (f (n / w)) (n % w) with | some v => K v | none => False) else getAt r (n - m * w) K
      | .ex m => nLt n (m * w) ∧ (match nthS (f (n / w)) (n % w) with | some v => K v | none => False)
    | .junk w m =>
      match m with
      | .lit m => if n < m * w then False else getAt r (n - m * w) K
      | .ex _ => False
    | v => if n = 0 then K v else getAt r (n - 1) K

theorem DenC.single {ρ : Rho} {x : SV} {cs : List Value} (h : DenC ρ x cs) (hx : single x = true) : ∃ c, cs = [c] ∧ oneC c = true ∧ Den ρ x c := by
  cases h with
  | one c h h1 hx => exact ⟨c, h, h1, hx⟩
  | ints hm h => simp [Vex.single] at hx
  | rows hm h => simp [Vex.single] at hx
  | junk hm h => simp [Vex.single] at hx
theorem Den.not_junk {ρ : Rho} {w : Nat} {m : S Nat} {v : Value} (h : Den ρ (.junk w m) v) : False := by cases h
theorem DenC.of_junk {ρ : Rho} {w : Nat} {m : S Nat} {cs : List Value} (h : DenC ρ (.junk w m) cs) : cs.length = m.val * w ∧ ∀ c ∈ cs, oneC c = true := by
  cases h with
  | one c h h1 hx => exact hx.not_junk.elim
  | junk hm h => exact ⟨hm, h⟩
theorem Den.not_ints {ρ : Rho} {k : IntKind} {m : S Nat} {zs : List Int} {v : Value} (h : Den ρ (.ints k m zs) v) : False := by cases h
theorem Den.not_rows {ρ : Rho} {w : Nat} {m : S Nat} {f : Nat → List SV} {v : Value} (h : Den ρ (.rows w m f) v) : False := by cases h
theorem DenC.of_ints {ρ : Rho} {k : IntKind} {m : S Nat} {zs : List Int} {cs : List Value} (h : DenC ρ (.ints k m zs) cs) : zs.length = m.val ∧ cs = zs.map (Value.int k) := by
  cases h with
  | one c h h1 hx => exact hx.not_ints.elim
  | ints hm h => exact ⟨hm, h⟩
theorem DenC.of_rows {ρ : Rho} {w : Nat} {m : S Nat} {f : Nat → List SV} {cs : List Value} (h : DenC ρ (.rows w m f) cs) :
    cs.length = m.val * w ∧ ∀ j, j < m.val → DenL ρ (f j) ((cs.drop (j * w)).take w) := by
  cases h with
  | one c h h1 hx => exact hx.not_rows.elim
  | rows hm h => exact ⟨hm, h⟩
theorem DenL.of_cons {ρ : Rho} {x : SV} {r : List SV} {cs : List Value} (h : DenL ρ (x :: r) cs) : ∃ c1 c2, cs = c1 ++ c2 ∧ DenC ρ x c1 ∧ DenL ρ r c2 := by
  cases h with | cons c1 c2 h h1 h2 => exact ⟨c1, c2, h, h1, h2⟩
theorem DenL.of_nil {ρ : Rho} {cs : List Value} (h : DenL ρ [] cs) : cs = [] := by cases h with | nil h => exact h

theorem sizeS_len {ρ : Rho} {x : SV} {cs : List Value} {n : Nat} (h : DenC ρ x cs) (hn : sizeS x = some n) : cs.length = n := by
  cases h with
  | one c h h1 hx => subst h; cases hx <;> simp_all [sizeS]
  | @ints k m zs cs hm h =>
    cases m with
    | lit m => simp only [sizeS, Option.some.injEq] at hn; subst hn; subst h; simpa using hm
    | ex m => simp [sizeS] at hn
  | @rows w m f cs hm h =>
    cases m with
    | lit m => simp only [sizeS, Option.some.injEq] at hn; subst hn; simpa using hm
    | ex m => simp [sizeS] at hn
  | @junk w m cs hm h =>
    cases m with
    | lit m => simp only [sizeS, Option.some.injEq] at hn; subst hn; simpa using hm
    | ex m => simp [sizeS] at hn

theorem ints_get {k : IntKind} {zs : List Int} {n : Nat} (h : n < zs.length) : (zs.map (Value.int k))[n]? = some (.int k (gi zs n)) := by
  rw [gi_eq]
  rw [List.getElem?_map, List.getElem?_eq_getElem h]
  simp [List.getD, List.getElem?_eq_getElem h]

theorem rows_div {n w m : Nat} (h : n < m * w) : n / w < m ∧ n % w < w ∧ n / w * w + n % w = n := by
  have hw : 0 < w := by
    rcases Nat.eq_zero_or_pos w with h0 | h0
    · subst h0; simp at h
    · exact h0
  refine ⟨(Nat.div_lt_iff_lt_mul hw).2 h, Nat.mod_lt _ hw, ?_⟩
  rw [Nat.mul_comm]; exact Nat.div_add_mod n w

theorem drop_take_get {α : Type} (cs : List α) (a w j : Nat) (hj : j < w) : ((cs.drop a).take w)[j]? = cs[a + j]? := by
  rw [List.getElem?_take_of_lt hj, List.getElem?_drop]

theorem nthS_sound {ρ : Rho} : ∀ (l : List SV) (n : Nat) (cs : List Value) (v : SV), DenL ρ l cs → nthS l n = some v → ∃ c, cs[n]? = some c ∧ oneC c = true ∧ Den ρ v c
  | [], n, cs, v, _, h => by simp [nthS] at h
  | x :: r, n, cs, v, hd, h => by
    obtain ⟨c1, c2, rfl, h1, h2⟩ := hd.of_cons
    unfold nthS at h
    split at h
    · rename_i hs
      obtain ⟨c, rfl, g1, g2⟩ := h1.single hs
      split at h
      · rename_i hn; subst hn; cases h; exact ⟨c, by simp, g1, g2⟩
      · obtain ⟨c', e1, e2, e3⟩ := nthS_sound r (n - 1) c2 v h2 h
        obtain ⟨n', rfl⟩ : ∃ n', n = n' + 1 := ⟨n - 1, by omega⟩
        exact ⟨c', by simpa using e1, e2, e3⟩
    · cases h

theorem row_get {ρ : Rho} {w m : Nat} {f : Nat → List SV} {cs : List Value} {n : Nat} {K : SV → Prop} (hm : cs.length = m * w)
    (hr : ∀ j, j < m → DenL ρ (f j) ((cs.drop (j * w)).take w)) (hlt : n < m * w)
    (h : match nthS (f (n / w)) (n % w) with | some v => K v | none => False) : ∃ v c, cs[n]? = some c ∧ oneC c = true ∧ Den ρ v c ∧ K v := by
  obtain ⟨e1, e2, e3⟩ := rows_div hlt
  split at h
  · rename_i v hv
    obtain ⟨c, g1, g2, g3⟩ := nthS_sound _ _ _ _ (hr _ e1) hv
    rw [drop_take_get _ _ _ _ e2, e3] at g1
    exact ⟨v, c, g1, g2, g3, h⟩
  · exact h.elim

theorem getAt_sound {ρ : Rho} : ∀ (l : List SV) (n : Nat) (K : SV → Prop) (cs : List Value), DenL ρ l cs → getAt l n K →
    ∃ v c, cs[n]? = some c ∧ oneC c = true ∧ Den ρ v c ∧ K v
  | [], n, K, cs, _, h => by simp [getAt] at h
  | x :: r, n, K, cs, hd, h => by
    obtain ⟨c1, c2, rfl, h1, h2⟩ := hd.of_cons
    by_cases hs : single x = true
    · obtain ⟨c, rfl, g1, g2⟩ := h1.single hs
      have h' : if n = 0 then K x else getAt r (n - 1) K := by cases x <;> first | exact h | simp [single] at hs
      split at h'
      · rename_i hn; subst hn; exact ⟨x, c, by simp, g1, g2, h'⟩
      · obtain ⟨v', c', e1, e2, e3, e4⟩ := getAt_sound r (n - 1) K c2 h2 h'
        obtain ⟨n', rfl⟩ : ∃ n', n = n' + 1 := ⟨n - 1, by omega⟩
        exact ⟨v', c', by simpa using e1, e2, e3, e4⟩
    · cases x <;> try (simp [single] at hs; done)
      case ints k m zs =>
        obtain ⟨hm, rfl⟩ := h1.of_ints
        cases m with
        | lit m =>
          have h' : if n < m then K (.i k (.ex (gi zs n))) else getAt r (n - m) K := h
          simp only [S.val_lit] at hm
          split at h'
          · rename_i hlt
            exact ⟨_, .int k (gi zs n), by rw [List.getElem?_append_left (by simpa [hm] using hlt)]; exact ints_get (by omega), rfl, .i rfl, h'⟩
          · rename_i hlt
            obtain ⟨v, c, e1, e2, e3, e4⟩ := getAt_sound r (n - m) K c2 h2 h'
            exact ⟨v, c, by rw [List.getElem?_append_right (by simp; omega)]; simpa [hm] using e1, e2, e3, e4⟩
        | ex m =>
          obtain ⟨hlt, h'⟩ : nLt n m ∧ K (.i k (.ex (gi zs n))) := h
          rw [nLt_eq] at hlt
          simp only [S.val_ex] at hm
          exact ⟨_, .int k (gi zs n), by rw [List.getElem?_append_left (by simp; omega)]; exact ints_get (by omega), rfl, .i rfl, h'⟩
      case rows w m f =>
        obtain ⟨hm, hr⟩ := h1.of_rows
        cases m with
        | lit m =>
          have h' : if n < m * w then (match nthS (f (n / w)) (n % w) with | some v => K v | none => False) else getAt r (n - m * w) K := h
          simp only [S.val_lit] at hm hr
          split at h'
          · rename_i hlt
            obtain ⟨v, c, g1, g2, g3, g4⟩ := row_get hm hr hlt h'
            exact ⟨v, c, by rw [List.getElem?_append_left (by omega)]; exact g1, g2, g3, g4⟩
          · obtain ⟨v, c, e1, e2, e3, e4⟩ := getAt_sound r (n - m * w) K c2 h2 h'
            exact ⟨v, c, by rw [List.getElem?_append_right (by omega)]; simpa [hm] using e1, e2, e3, e4⟩
        | ex m =>
          obtain ⟨hlt, h'⟩ : nLt n (m * w) ∧ (match nthS (f (n / w)) (n % w) with | some v => K v | none => False) := h
          rw [nLt_eq] at hlt
          simp only [S.val_ex] at hm hr
          obtain ⟨v, c, g1, g2, g3, g4⟩ := row_get hm hr hlt h'
          exact ⟨v, c, by rw [List.getElem?_append_left (by omega)]; exact g1, g2, g3, g4⟩
      case junk w m =>
        obtain ⟨hm, hr⟩ := h1.of_junk
        cases m with
        | lit m =>
          have h' : if n < m * w then False else getAt r (n - m * w) K := h
          simp only [S.val_lit] at hm
          split at h'
          · exact h'.elim
          · obtain ⟨v, c, e1, e2, e3, e4⟩ := getAt_sound r (n - m * w) K c2 h2 h'
            exact ⟨v, c, by rw [List.getElem?_append_right (by omega)]; simpa [hm] using e1, e2, e3, e4⟩
        | ex m => exact (show False from h).elim

/-! ### An expression for the index: l + i * w + c -/
def headRow (v : SV) (i w c : Nat) (K : SV → Prop) : Prop :=
  match v with
  | .ints k m zs => if w = 1 then (if c = 0 then nLt i m.val ∧ K (.i k (.ex (gi zs i))) else False) else False
  | .rows w' m f => if w' = w then (if c < w then nLt i m.val ∧ (match nthS (f i) c with | some v => K v | none => False) else False) else False
  | _ => False
def getRow : List SV → Nat → Nat → Nat → Nat → (SV → Prop) → Prop
  | [], _, _, _, _, _ => False
  | v :: r, l, i, w, c, K =>
    if l = 0 then headRow v i w c K
    else match sizeS v with
      | some s => if s ≤ l then getRow r (l - s) i w c K else False
      | none => False

theorem headRow_sound {ρ : Rho} {v : SV} {i w c : Nat} {K : SV → Prop} {c1 : List Value} (hd : DenC ρ v c1) (h : headRow v i w c K) :
    ∃ v u, c1[i * w + c]? = some u ∧ oneC u = true ∧ Den ρ v u ∧ K v := by
  unfold headRow at h
  split at h
  · rename_i k m zs
    obtain ⟨hm, rfl⟩ := hd.of_ints
    split at h
    · split at h
      · obtain ⟨hlt, h⟩ := h
        rw [nLt_eq] at hlt
        rename_i e1 e2; subst e1; subst e2
        refine ⟨_, .int k (gi zs i), ?_, rfl, .i rfl, h⟩
        simp only [Nat.mul_one, Nat.add_zero]
        exact ints_get (by omega)
      · exact h.elim
    · exact h.elim
  · rename_i w' m f
    obtain ⟨hm, hr⟩ := hd.of_rows
    split at h
    · split at h
      · obtain ⟨hlt, h⟩ := h
        rw [nLt_eq] at hlt
        rename_i e1 e2; subst e1
        split at h
        · rename_i v hv
          obtain ⟨u, g1, g2, g3⟩ := nthS_sound _ _ _ _ (hr _ hlt) hv
          rw [drop_take_get _ _ _ _ e2] at g1
          exact ⟨v, u, g1, g2, g3, h⟩
        · exact h.elim
      · exact h.elim
    · exact h.elim
  · exact h.elim

theorem getRow_sound {ρ : Rho} : ∀ (l : List SV) (b i w c : Nat) (K : SV → Prop) (cs : List Value), DenL ρ l cs → getRow l b i w c K →
    ∃ v u, cs[b + i * w + c]? = some u ∧ oneC u = true ∧ Den ρ v u ∧ K v
  | [], b, i, w, c, K, cs, _, h => by simp [getRow] at h
  | x :: r, b, i, w, c, K, cs, hd, h => by
    obtain ⟨c1, c2, rfl, h1, h2⟩ := hd.of_cons
    unfold getRow at h
    split at h
    · rename_i e; subst e
      obtain ⟨v, u, g1, g2⟩ := headRow_sound h1 h
      refine ⟨v, u, ?_, g2⟩
      rw [Nat.zero_add, List.getElem?_append_left (List.getElem?_eq_some_iff.1 g1).1]; exact g1
    · split at h
      · rename_i s hs
        have hl := sizeS_len h1 hs
        split at h
        · obtain ⟨v, u, e1, e2, e3, e4⟩ := getRow_sound r (b - s) i w c K c2 h2 h
          refine ⟨v, u, ?_, e2, e3, e4⟩
          rw [List.getElem?_append_right (by omega), hl, show b + i * w + c - s = b - s + i * w + c by omega]; exact e1
        · exact h.elim
      · exact h.elim

def getOff (l : List SV) (o : Off) (K : SV → Prop) : Prop :=
  match o with
  | .at n => getAt l n K
  | .row b i w c => getRow l b i w c K
theorem getOff_sound {ρ : Rho} {l : List SV} {o : Off} {K : SV → Prop} {cs : List Value} (hd : DenL ρ l cs) (h : getOff l o K) :
    ∃ v u, cs[o.val]? = some u ∧ oneC u = true ∧ Den ρ v u ∧ K v := by
  cases o with
  | «at» n => exact getAt_sound l n K cs hd h
  | row b i w c => exact getRow_sound l b i w c K cs hd h

/-! ### Many cells at once -/
def takeN : List SV → Nat → Option (List SV)
  | l, 0 => some []
  | [], _ + 1 => none
  | v :: r, n + 1 => match sizeS v with
    | some s => if s ≤ n + 1 then (match takeN r (n + 1 - s) with | some l => some (v :: l) | none => none) else none
    | none => none
def dropN : List SV → Nat → Option (List SV)
  | l, 0 => some l
  | [], _ + 1 => none
  | v :: r, n + 1 => match sizeS v with
    | some s => if s ≤ n + 1 then dropN r (n + 1 - s) else none
    | none => none

theorem takeN_sound {ρ : Rho} : ∀ (l : List SV) (n : Nat) (l' : List SV) (cs : List Value), DenL ρ l cs → takeN l n = some l' → DenL ρ l' (cs.take n) ∧ n ≤ cs.length
  | l, 0, l', cs, hd, h => by cases l <;> (simp only [takeN, Option.some.injEq] at h; subst h; exact ⟨.nil (by simp), by simp⟩)
  | [], n + 1, l', cs, hd, h => by simp [takeN] at h
  | v :: r, n + 1, l', cs, hd, h => by
    obtain ⟨c1, c2, rfl, h1, h2⟩ := hd.of_cons
    unfold takeN at h
    split at h
    · rename_i s hs
      have hl := sizeS_len h1 hs
      split at h
      · split at h
        · rename_i hle l2 hl2
          cases h
          obtain ⟨g1, g2⟩ := takeN_sound r (n + 1 - s) l2 c2 h2 hl2
          refine ⟨.cons c1 (c2.take (n + 1 - s)) ?_ h1 g1, by simp; omega⟩
          rw [List.take_append, hl, List.take_of_length_le (by omega)]
        · cases h
      · cases h
    · cases h
theorem dropN_sound {ρ : Rho} : ∀ (l : List SV) (n : Nat) (l' : List SV) (cs : List Value), DenL ρ l cs → dropN l n = some l' → DenL ρ l' (cs.drop n) ∧ n ≤ cs.length
  | l, 0, l', cs, hd, h => by cases l <;> (simp only [dropN, Option.some.injEq] at h; subst h; exact ⟨by simpa using hd, by simp⟩)
  | [], n + 1, l', cs, hd, h => by simp [dropN] at h
  | v :: r, n + 1, l', cs, hd, h => by
    obtain ⟨c1, c2, rfl, h1, h2⟩ := hd.of_cons
    unfold dropN at h
    split at h
    · rename_i s hs
      have hl := sizeS_len h1 hs
      split at h
      · obtain ⟨g1, g2⟩ := dropN_sound r (n + 1 - s) l' c2 h2 h
        refine ⟨?_, by simp; omega⟩
        rw [List.drop_append, List.drop_eq_nil_of_le (by omega), hl]
        simpa using g1
      · cases h
    · cases h

theorem DenL.append {ρ : Rho} : ∀ {l l' : List SV} {cs ds : List Value}, DenL ρ l cs → DenL ρ l' ds → DenL ρ (l ++ l') (cs ++ ds)
  | [], l', cs, ds, h, h' => by rw [h.of_nil]; simpa using h'
  | x :: r, l', cs, ds, h, h' => by
    obtain ⟨c1, c2, rfl, h1, h2⟩ := h.of_cons
    exact .cons c1 (c2 ++ ds) (by simp) h1 (h2.append h')

/-- The cells from a place on, so many. -/
def cut (l : List SV) (off n : Nat) : Option (List SV) :=
  match dropN l off with
  | some l => takeN l n
  | none => none
theorem cut_sound {ρ : Rho} {l l' : List SV} {off n : Nat} {cs : List Value} (hd : DenL ρ l cs) (h : cut l off n = some l') : DenL ρ l' ((cs.drop off).take n) ∧ off + n ≤ cs.length := by
  unfold cut at h
  split at h
  · rename_i l2 h2
    obtain ⟨g1, g2⟩ := dropN_sound _ _ _ _ hd h2
    obtain ⟨g3, g4⟩ := takeN_sound _ _ _ _ g1 h
    exact ⟨g3, by simp at g4; omega⟩
  · cases h

/-- A row's part: of the element i, from c on, n cells. -/
def headCut (v : SV) (i w c n : Nat) (K : List SV → Prop) : Prop :=
  match v with
  | .rows w' m f => if w' = w then (if c + n ≤ w then nLt i m.val ∧ (match cut (f i) c n with | some l => K l | none => False) else False) else False
  | _ => False
def cutRow : List SV → Nat → Nat → Nat → Nat → Nat → (List SV → Prop) → Prop
  | [], _, _, _, _, _, _ => False
  | v :: r, l, i, w, c, n, K =>
    if l = 0 then headCut v i w c n K
    else match sizeS v with
      | some s => if s ≤ l then cutRow r (l - s) i w c n K else False
      | none => False

theorem drop_take_drop {α : Type} (cs : List α) (a w c n : Nat) (h : c + n ≤ w) : (((cs.drop a).take w).drop c).take n = (cs.drop (a + c)).take n := by
  rw [List.drop_take, List.take_take, List.drop_drop, Nat.min_eq_left (by omega)]

theorem headCut_sound {ρ : Rho} {v : SV} {i w c n : Nat} {K : List SV → Prop} {c1 : List Value} (hd : DenC ρ v c1) (h : headCut v i w c n K) :
    ∃ l', DenL ρ l' ((c1.drop (i * w + c)).take n) ∧ i * w + c + n ≤ c1.length ∧ K l' := by
  unfold headCut at h
  split at h
  · rename_i w' m f
    obtain ⟨hm, hr⟩ := hd.of_rows
    split at h
    · split at h
      · obtain ⟨hlt, h⟩ := h
        rw [nLt_eq] at hlt
        rename_i e1 e2; subst e1
        split at h
        · rename_i l' hl'
          obtain ⟨g1, g2⟩ := cut_sound (hr _ hlt) hl'
          rw [drop_take_drop _ _ _ _ _ e2] at g1
          have : (i + 1) * w' ≤ m.val * w' := Nat.mul_le_mul_right _ hlt
          rw [Nat.add_mul] at this
          exact ⟨l', g1, by omega, h⟩
        · exact h.elim
      · exact h.elim
    · exact h.elim
  · exact h.elim

theorem cutRow_sound {ρ : Rho} : ∀ (l : List SV) (b i w c n : Nat) (K : List SV → Prop) (cs : List Value), DenL ρ l cs → cutRow l b i w c n K →
    ∃ l', DenL ρ l' ((cs.drop (b + i * w + c)).take n) ∧ b + i * w + c + n ≤ cs.length ∧ K l'
  | [], b, i, w, c, n, K, cs, _, h => by simp [cutRow] at h
  | x :: r, b, i, w, c, n, K, cs, hd, h => by
    obtain ⟨c1, c2, rfl, h1, h2⟩ := hd.of_cons
    unfold cutRow at h
    split at h
    · rename_i e; subst e
      obtain ⟨l', g1, g2, g3⟩ := headCut_sound h1 h
      refine ⟨l', ?_, by simp; omega, g3⟩
      rw [Nat.zero_add, List.drop_append_of_le_length (by omega), List.take_append_of_le_length (by simp; omega)]; exact g1
    · split at h
      · rename_i s hs
        have hl := sizeS_len h1 hs
        split at h
        · obtain ⟨l', e1, e2, e3⟩ := cutRow_sound r (b - s) i w c n K c2 h2 h
          refine ⟨l', ?_, by simp; omega, e3⟩
          rw [List.drop_append, List.drop_eq_nil_of_le (by omega), hl, List.nil_append, show b + i * w + c - s = b - s + i * w + c by omega]; exact e1
        · exact h.elim
      · exact h.elim

def cutOff (l : List SV) (o : Off) (n : Nat) (K : List SV → Prop) : Prop :=
  match o with
  | .at m => match cut l m n with | some l => K l | none => False
  | .row b i w c => cutRow l b i w c n K
theorem cutOff_sound {ρ : Rho} {l : List SV} {o : Off} {n : Nat} {K : List SV → Prop} {cs : List Value} (hd : DenL ρ l cs) (h : cutOff l o n K) :
    ∃ l', DenL ρ l' ((cs.drop o.val).take n) ∧ o.val + n ≤ cs.length ∧ K l' := by
  cases o with
  | «at» m =>
    unfold cutOff at h
    simp only at h
    split at h
    · rename_i l' hl'; obtain ⟨g1, g2⟩ := cut_sound hd hl'; exact ⟨l', g1, g2, h⟩
    · exact h.elim
  | row b i w c => exact cutRow_sound l b i w c n K cs hd h
end
end Go.Vex
end

/-
  VEX, part 3: writing the cells of a resource; loads and stores in the world.
-/
section
namespace Go.Vex
noncomputable section

theorem ints_set {k : IntKind} {zs : List Int} {n : Nat} {z : Int} : (zs.map (Value.int k)).set n (.int k z) = (setI zs n z).map (Value.int k) := by
  rw [setI_eq]; rw [List.map_set]

/-- A number of this kind. -/
def numOf (k : IntKind) : SV → Option Int
  | .i k' z => if k' = k then some z.val else none
  | _ => none
theorem numOf_sound {ρ : Rho} {k : IntKind} {v : SV} {z : Int} {c : Value} (h : numOf k v = some z) (hv : Den ρ v c) : c = .int k z := by
  unfold numOf at h
  split at h
  · split at h
    · rename_i e; subst e; cases h; cases hv with | i hv => exact hv
    · cases h
  · cases h

def putAt : List SV → Nat → SV → (List SV → Prop) → Prop
  | [], _, _, _ => False
  | x :: r, n, v, K =>
    match x with
    | .ints k m zs =>
      match m with
      | .lit m => if n < m then (match numOf k v with | some z => K (.ints k (.lit m) (setI zs n z) :: r) | none => False) else putAt r (n - m) v fun r' => K (.ints k (.lit m) zs :: r')
      | .ex m => nLt n m ∧ (match numOf k v with | some z => K (.ints k (.ex m) (setI zs n z) :: r) | none => False)
    | .rows .. => False
    | .junk .. => False
    | x => if n = 0 then K (v :: r) else putAt r (n - 1) v fun r' => K (x :: r')

theorem putInt {ρ : Rho} {k : IntKind} {m : S Nat} {zs : List Int} {n : Nat} {v : SV} {c : Value} {K : SV → Prop} (hm : zs.length = m.val) (hn : n < m.val)
    (hv : Den ρ v c) (h : match numOf k v with | some z => K (.ints k m (setI zs n z)) | none => False) :
    ∃ x, DenC ρ x ((zs.map (Value.int k)).set n c) ∧ K x := by
  split at h
  · rename_i z hz
    rw [numOf_sound hz hv]
    exact ⟨_, .ints (by rw [setI_eq]; simpa using hm) (by rw [ints_set]), h⟩
  · exact h.elim

theorem putAt_sound {ρ : Rho} {v : SV} {c : Value} (hv : Den ρ v c) (hc : oneC c = true) (hsv : single v = true) : ∀ (l : List SV) (n : Nat) (K : List SV → Prop) (cs : List Value), DenL ρ l cs → putAt l n v K →
    ∃ l', DenL ρ l' (cs.set n c) ∧ n < cs.length ∧ K l'
  | [], n, K, cs, _, h => by simp [putAt] at h
  | x :: r, n, K, cs, hd, h => by
    obtain ⟨c1, c2, rfl, h1, h2⟩ := hd.of_cons
    by_cases hs : single x = true
    · obtain ⟨u, rfl, g1, g2⟩ := h1.single hs
      have h' : if n = 0 then K (v :: r) else putAt r (n - 1) v fun r' => K (x :: r') := by cases x <;> first | exact h | simp [single] at hs
      split at h'
      · rename_i e; subst e
        exact ⟨_, .cons [c] c2 (by simp) (.one c rfl hc hv) h2, by simp, h'⟩
      · obtain ⟨l', e1, e2, e3⟩ := putAt_sound hv hc hsv r (n - 1) _ c2 h2 h'
        obtain ⟨n', rfl⟩ : ∃ n', n = n' + 1 := ⟨n - 1, by omega⟩
        exact ⟨_, .cons [u] (c2.set n' c) (by simp) h1 (by simpa using e1), by simpa using e2, e3⟩
    · cases x <;> try (simp [single] at hs; done)
      case ints k m zs =>
        obtain ⟨hm, rfl⟩ := h1.of_ints
        cases m with
        | lit m =>
          have h' : if n < m then (match numOf k v with | some z => K (.ints k (.lit m) (setI zs n z) :: r) | none => False) else putAt r (n - m) v fun r' => K (.ints k (.lit m) zs :: r') := h
          simp only [S.val_lit] at hm
          split at h'
          · rename_i hlt
            obtain ⟨x', e1, e2⟩ := putInt (K := fun x => K (x :: r)) (m := .lit m) hm hlt hv h'
            exact ⟨_, .cons _ c2 (by rw [List.set_append_left _ _ (by simp; omega)]) e1 h2, by simp; omega, e2⟩
          · obtain ⟨l', e1, e2, e3⟩ := putAt_sound hv hc hsv r (n - m) _ c2 h2 h'
            exact ⟨_, .cons _ _ (by rw [List.set_append_right _ _ (by simp; omega)]) h1 (by simpa [hm] using e1), by simp; omega, e3⟩
        | ex m =>
          obtain ⟨hlt, h'⟩ : nLt n m ∧ (match numOf k v with | some z => K (.ints k (.ex m) (setI zs n z) :: r) | none => False) := h
          rw [nLt_eq] at hlt
          simp only [S.val_ex] at hm
          obtain ⟨x', e1, e2⟩ := putInt (K := fun x => K (x :: r)) (m := .ex m) hm hlt hv h'
          exact ⟨_, .cons _ c2 (by rw [List.set_append_left _ _ (by simp; omega)]) e1 h2, by simp; omega, e2⟩
      case rows w m f => exact (show False from h).elim
      case junk w m => exact (show False from h).elim

theorem DenC.setRow {ρ : Rho} {w : Nat} {m : S Nat} {f : Nat → List SV} {c1 cells : List Value} {row : List SV} {i : Nat} (h : DenC ρ (.rows w m f) c1) (hi : i < m.val) (hrow : DenL ρ row cells) (hlen : cells.length = w) :
    DenC ρ (.rows w m (upd f i row)) (c1.take (i * w) ++ (cells ++ c1.drop (i * w + w))) ∧ i * w + w ≤ c1.length := by
  obtain ⟨hm, hr⟩ := h.of_rows
  have hb : i * w + w ≤ c1.length := by
    rw [hm]
    have := Nat.mul_le_mul_right w (show i + 1 ≤ m.val from hi)
    rw [Nat.add_mul, Nat.one_mul] at this; exact this
  refine ⟨.rows ?_ fun j hj => ?_, hb⟩
  · simp; omega
  · rw [upd_eq]
    by_cases e : j = i
    · subst e
      have : ((c1.take (j * w) ++ (cells ++ c1.drop (j * w + w))).drop (j * w)).take w = cells := by
        rw [List.drop_append_of_le_length (by simp; omega), List.drop_of_length_le (by simp; omega), List.nil_append, List.take_append_of_le_length (by omega), List.take_of_length_le (by omega)]
      rw [this]; simpa using hrow
    · have hj2 : j * w + w ≤ i * w ∨ i * w + w ≤ j * w := by
        rcases Nat.lt_or_ge j i with h1 | h1
        · left
          have := Nat.mul_le_mul_right w (show j + 1 ≤ i from h1)
          rw [Nat.add_mul, Nat.one_mul] at this; exact this
        · right
          have := Nat.mul_le_mul_right w (show i + 1 ≤ j by omega)
          rw [Nat.add_mul, Nat.one_mul] at this; exact this
      have : ((c1.take (i * w) ++ (cells ++ c1.drop (i * w + w))).drop (j * w)).take w = (c1.drop (j * w)).take w := by
        apply List.ext_getElem?
        intro k
        rw [List.getElem?_take, List.getElem?_take]
        by_cases hk : k < w
        · rw [if_pos hk, if_pos hk, List.getElem?_drop, List.getElem?_drop]
          rcases hj2 with h1 | h1
          · rw [List.getElem?_append_left (by simp; omega), List.getElem?_take_of_lt (by omega)]
          · rw [List.getElem?_append_right (by simp; omega), List.getElem?_append_right (by simp; omega), List.getElem?_drop]
            congr 1; simp; omega
        · rw [if_neg hk, if_neg hk]
      rw [this]
      show DenL ρ (if j = i then row else f j) _
      rw [if_neg e]
      exact hr j hj
def putRow : List SV → Nat → Nat → SV → (List SV → Prop) → Prop
  | [], _, _, _, _ => False
  | x :: r, l, i, v, K =>
    if l = 0 then (match x with
      | .ints k m zs => nLt i m.val ∧ (match numOf k v with | some z => K (.ints k m (setI zs i z) :: r) | none => False)
      | .rows w m f => if w = 1 then nLt i m.val ∧ K (.rows 1 m (upd f i [v]) :: r) else False
      | _ => False)
    else match sizeS x with
      | some s => if s ≤ l then putRow r (l - s) i v fun r' => K (x :: r') else False
      | none => False

theorem putRow_sound {ρ : Rho} {v : SV} {c : Value} (hv : Den ρ v c) (hc : oneC c = true) : ∀ (l : List SV) (b i : Nat) (K : List SV → Prop) (cs : List Value), DenL ρ l cs → putRow l b i v K →
    ∃ l', DenL ρ l' (cs.set (b + i) c) ∧ b + i < cs.length ∧ K l'
  | [], b, i, K, cs, _, h => by simp [putRow] at h
  | x :: r, b, i, K, cs, hd, h => by
    obtain ⟨c1, c2, rfl, h1, h2⟩ := hd.of_cons
    unfold putRow at h
    split at h
    · rename_i e; subst e
      split at h
      · rename_i k m zs
        obtain ⟨hm, rfl⟩ := h1.of_ints
        obtain ⟨hlt, h'⟩ := h
        rw [nLt_eq] at hlt
        obtain ⟨x', e1, e2⟩ := putInt (K := fun x => K (x :: r)) hm hlt hv h'
        exact ⟨_, .cons _ c2 (by rw [Nat.zero_add, List.set_append_left _ _ (by simp; omega)]) e1 h2, by simp; omega, e2⟩
      · rename_i w m f
        split at h
        · rename_i ew; subst ew
          obtain ⟨hlt, h'⟩ := h
          rw [nLt_eq] at hlt
          obtain ⟨g1, g2⟩ := h1.setRow (row := [v]) (cells := [c]) hlt (.cons [c] [] (by simp) (.one c rfl hc hv) (.nil rfl)) rfl
          rw [Nat.mul_one] at g1 g2
          refine ⟨_, .cons _ c2 ?_ g1 h2, by simp; omega, h'⟩
          rw [Nat.zero_add, List.set_append_left _ _ (by omega), List.set_eq_take_append_cons_drop, if_pos (by omega)]; rfl
        · exact h.elim
      · exact h.elim
    · split at h
      · rename_i s hs
        have hl := sizeS_len h1 hs
        split at h
        · obtain ⟨l', e1, e2, e3⟩ := putRow_sound hv hc r (b - s) i _ c2 h2 h
          refine ⟨_, .cons _ _ (by rw [List.set_append_right _ _ (by omega)]) h1 ?_, by simp; omega, e3⟩
          rw [hl, show b + i - s = b - s + i by omega]; exact e1
        · exact h.elim
      · exact h.elim

/-- Many cells, from a numeral on. -/
def setAt (l : List SV) (off n : Nat) (new : List SV) : Option (List SV) :=
  match takeN l off with
  | some a => match dropN l (off + n) with
    | some b => some (a ++ (new ++ b))
    | none => none
  | none => none
theorem setAt_sound {ρ : Rho} {l l' new : List SV} {off : Nat} {cs ds : List Value} (hd : DenL ρ l cs) (hn : DenL ρ new ds) (h : setAt l off ds.length new = some l') :
    DenL ρ l' (cs.take off ++ (ds ++ cs.drop (off + ds.length))) ∧ off + ds.length ≤ cs.length := by
  unfold setAt at h
  split at h
  · rename_i a ha
    split at h
    · rename_i b hb
      cases h
      obtain ⟨g1, g2⟩ := takeN_sound _ _ _ _ hd ha
      obtain ⟨g3, g4⟩ := dropN_sound _ _ _ _ hd hb
      exact ⟨g1.append (hn.append g3), g4⟩
    · cases h
  · cases h

theorem row_splice {α : Type} (c1 c2 ds : List α) (q w c n : Nat) (hn : ds.length = n) (h1 : q + w ≤ c1.length) (h2 : c + n ≤ w) :
    (c1 ++ c2).take (q + c) ++ (ds ++ (c1 ++ c2).drop (q + c + n)) = (c1.take q ++ ((((c1.drop q).take w).take c ++ (ds ++ ((c1.drop q).take w).drop (c + n))) ++ c1.drop (q + w))) ++ c2 := by
  have e1 : (c1 ++ c2).take (q + c) = c1.take q ++ ((c1.drop q).take w).take c := by
    rw [List.take_append_of_le_length (by omega), List.take_add, List.take_take, Nat.min_eq_left (by omega)]
  have e2 : (c1 ++ c2).drop (q + c + n) = ((c1.drop q).take w).drop (c + n) ++ (c1.drop (q + w) ++ c2) := by
    rw [List.drop_append_of_le_length (by omega), ← List.append_assoc]
    congr 1
    have : c1.drop q = (c1.drop q).take w ++ (c1.drop q).drop w := (List.take_append_drop w _).symm
    have h3 : c1.drop (q + c + n) = (c1.drop q).drop (c + n) := by rw [List.drop_drop, Nat.add_assoc]
    have h4 : c1.drop (q + w) = (c1.drop q).drop w := by rw [List.drop_drop]
    rw [h3, h4]
    have h5 : (c1.drop q).length = c1.length - q := by simp
    generalize c1.drop q = d at *
    conv => lhs; rw [this]
    rw [List.drop_append_of_le_length (by rw [List.length_take]; omega)]
  rw [e1, e2]
  simp [List.append_assoc]
/-- Cells of a row. -/
def putRows : List SV → Nat → Nat → Nat → Nat → Nat → List SV → (List SV → Prop) → Prop
  | [], _, _, _, _, _, _, _ => False
  | x :: r, l, i, w, c, n, new, K =>
    if l = 0 then (match x with
      | .rows w' m f => if w' = w then nLt i m.val ∧ (match setAt (f i) c n new with
        | some row => K (.rows w m (upd f i row) :: r)
        | none => False) else False
      | _ => False)
    else match sizeS x with
      | some s => if s ≤ l then putRows r (l - s) i w c n new fun r' => K (x :: r') else False
      | none => False
theorem putRows_sound {ρ : Rho} {new : List SV} {ds : List Value} (hn : DenL ρ new ds) : ∀ (l : List SV) (b i w c : Nat) (K : List SV → Prop) (cs : List Value), DenL ρ l cs → putRows l b i w c ds.length new K →
    ∃ l', DenL ρ l' (cs.take (b + i * w + c) ++ (ds ++ cs.drop (b + i * w + c + ds.length))) ∧ b + i * w + c + ds.length ≤ cs.length ∧ K l'
  | [], b, i, w, c, K, cs, _, h => by simp [putRows] at h
  | x :: r, b, i, w, c, K, cs, hd, h => by
    obtain ⟨c1, c2, rfl, h1, h2⟩ := hd.of_cons
    unfold putRows at h
    split at h
    · rename_i e; subst e
      split at h
      · rename_i w' m f
        split at h
        · rename_i ew; subst ew
          obtain ⟨hlt, h'⟩ := h
          rw [nLt_eq] at hlt
          split at h'
          · rename_i row hrow
            obtain ⟨hm, hr⟩ := h1.of_rows
            obtain ⟨g1, g2⟩ := setAt_sound (hr i hlt) hn hrow
            have hb : i * w' + w' ≤ c1.length := by
              rw [hm]
              have := Nat.mul_le_mul_right w' (show i + 1 ≤ m.val from hlt)
              rw [Nat.add_mul, Nat.one_mul] at this; exact this
            have hrl : ((c1.drop (i * w')).take w').length = w' := by simp; omega
            rw [hrl] at g2
            obtain ⟨k1, _⟩ := h1.setRow hlt g1 (by simp; omega)
            refine ⟨_, .cons _ c2 ?_ k1 h2, by simp; omega, h'⟩
            rw [Nat.zero_add]
            exact row_splice c1 c2 ds (i * w') w' c ds.length rfl hb g2
          · exact h'.elim
        · exact h.elim
      · exact h.elim
    · split at h
      · rename_i s hs
        have hl := sizeS_len h1 hs
        split at h
        · obtain ⟨l', e1, e2, e3⟩ := putRows_sound hn r (b - s) i w c _ c2 h2 h
          refine ⟨_, .cons c1 _ ?_ h1 e1, by simp; omega, e3⟩
          rw [List.take_append, List.drop_append, List.take_of_length_le (by omega), List.drop_of_length_le (by omega), hl]
          rw [show b + i * w + c - s = b - s + i * w + c by omega, show b + i * w + c + ds.length - s = b - s + i * w + c + ds.length by omega]
          simp
        · exact h.elim
      · exact h.elim

def putOff (l : List SV) (o : Off) (v : SV) (K : List SV → Prop) : Prop :=
  match o with
  | .at n => putAt l n v K
  | .row b i w c => if w = 1 then (if c = 0 then putRow l b i v K else False) else putRows l b i w c 1 [v] K
theorem putOff_sound {ρ : Rho} {v : SV} {c : Value} (hv : Den ρ v c) (hc : oneC c = true) (hsv : single v = true) {l : List SV} {o : Off} {K : List SV → Prop} {cs : List Value} (hd : DenL ρ l cs) (h : putOff l o v K) :
    ∃ l', DenL ρ l' (cs.set o.val c) ∧ o.val < cs.length ∧ K l' := by
  cases o with
  | «at» n => exact putAt_sound hv hc hsv l n K cs hd h
  | row b i w c' =>
    unfold putOff at h
    simp only at h
    split at h
    · split at h
      · rename_i e1 e2; subst e1; subst e2
        obtain ⟨l', g1, g2, g3⟩ := putRow_sound hv hc l b i K cs hd h
        exact ⟨l', by simpa [Off.val] using g1, by simpa [Off.val] using g2, g3⟩
      · exact h.elim
    · obtain ⟨l', g1, g2, g3⟩ := putRows_sound (new := [v]) (ds := [c]) (.cons [c] [] (by simp) (.one c rfl hc hv) (.nil rfl)) l b i w c' K cs hd h
      simp only [List.length_singleton] at g1 g2
      refine ⟨l', ?_, by show b + i * w + c' < _; omega, g3⟩
      rw [show (Off.row b i w c').val = b + i * w + c' from rfl, List.set_eq_take_append_cons_drop, if_pos (by omega)]
      exact g1

/-! ### In the world -/
theorem addr_add (b o n : Nat) : (⟨b, o, none⟩ : Addr).add n = ⟨b, o + n, none⟩ := by
  unfold Addr.add; split <;> simp_all

/-- What is read of a resource. -/
def blkCells : Blk → Option (List SV)
  | .cells _ l => some l
  | .ro l => some l
  | .glob _ l => some l
  | _ => none

theorem cell_of {w : World} {b j : Nat} {arr : Array Value} {T : TypeId} {fz : Nat × Nat} (h : w.heap[b]? = some (.cells arr T fz)) : w.cell? ⟨b, j, none⟩ = arr[j]? := by
  simp [World.cell?, h]

theorem HSatO.reads {ρ : Rho} {ω : List Own} {hp : List Blk} {w : World} (h : HSatO ρ ω hp w) {x b o0 : Nat} {k : Blk} {l : List SV}
    (hx : ρ[x]? = some (some (b, o0))) (hk : hp[x]? = some k) (hl : blkCells k = some l) :
    ∃ cs, DenL ρ l cs ∧ ∀ j c, cs[j]? = some c → w.cell? ⟨b, o0 + j, none⟩ = some c := by
  have hlt : x < ρ.length := (List.getElem?_eq_some_iff.1 hx).1
  obtain ⟨o, ho⟩ : ∃ o, ω[x]? = some o := ⟨ω[x]'(by rw [h.lenω]; exact hlt), by simp⟩
  have hs := h.sat x _ o k hx ho hk
  cases k <;> simp only [blkCells, Option.some.injEq, reduceCtorEq] at hl
  case cells T l' =>
    subst hl
    obtain ⟨cs, e4, ⟨_, e1, _⟩ | ⟨b', e1, e2, e3⟩⟩ := hs
    · cases e1
    cases e1
    exact ⟨cs, e4, fun j c hc => by rw [cell_of e3, Nat.zero_add]; simpa using hc⟩
  case ro l' =>
    subst hl
    obtain ⟨cs, e1, e2⟩ := hs
    rcases e2 with ⟨rfl, _⟩ | ⟨b', o', e2, rfl, e4⟩
    · exact ⟨[], e1, fun j c hc => by simp at hc⟩
    · cases e2
      rcases e4 with rfl | ⟨arr, T, fz, e4, e5⟩
      · exact ⟨[], e1, fun j c hc => by simp at hc⟩
      · exact ⟨cs, e1, fun j c hc => by rw [cell_of e4]; exact e5 j c hc⟩
  case glob g l' =>
    subst hl
    obtain ⟨cs, arr, T, fz, e1, e2, rfl, e4, e5⟩ := hs
    cases e2
    exact ⟨cs, e1, fun j c hc => by rw [cell_of e4, Nat.zero_add]; exact e5 j c hc⟩

/-- A load of one cell. -/
theorem HSat.load1 {ρ : Rho} {hp : List Blk} {w : World} (h : HSat ρ hp w) {x b o0 : Nat} {k : Blk} {l : List SV} {o : Off} {K : SV → Prop}
    (hx : ρ[x]? = some (some (b, o0))) (hk : hp[x]? = some k) (hl : blkCells k = some l) (hK : getOff l o K) :
    ∃ v c, w.cell? ⟨b, o0 + o.val, none⟩ = some c ∧ oneC c = true ∧ Den ρ v c ∧ K v := by
  obtain ⟨ω, h⟩ := h
  obtain ⟨cs, h1, h2⟩ := h.reads hx hk hl
  obtain ⟨v, u, e1, e2, e3, e4⟩ := getOff_sound h1 hK
  exact ⟨v, u, h2 _ _ e1, e2, e3, e4⟩
/-- A load of many. -/
theorem HSat.loadN {ρ : Rho} {hp : List Blk} {w : World} (h : HSat ρ hp w) {x b o0 n : Nat} {k : Blk} {l : List SV} {o : Off} {K : List SV → Prop}
    (hx : ρ[x]? = some (some (b, o0))) (hk : hp[x]? = some k) (hl : blkCells k = some l) (hK : cutOff l o n K) :
    ∃ l' cs, cs.length = n ∧ (∀ j c, cs[j]? = some c → w.cell? ⟨b, o0 + o.val + j, none⟩ = some c) ∧ DenL ρ l' cs ∧ K l' := by
  obtain ⟨ω, h⟩ := h
  obtain ⟨cs, h1, h2⟩ := h.reads hx hk hl
  obtain ⟨l', e1, e2, e3⟩ := cutOff_sound h1 hK
  refine ⟨l', (cs.drop o.val).take n, by simp; omega, fun j c hc => ?_, e1, e3⟩
  have hj : j < n := by
    have := (List.getElem?_eq_some_iff.1 hc).1; simp at this; omega
  rw [drop_take_get _ _ _ _ hj] at hc
  rw [Nat.add_assoc]
  exact h2 _ _ hc

/-- The world with a block turned. -/
def putB (w : World) (b : Nat) (o : Obj) : World := { w with heap := w.heap.setIfInBounds b o }
theorem setCell_putB {w : World} {b j : Nat} {cs : List Value} {T : TypeId} {v : Value} (h : w.heap[b]? = some (.cells cs.toArray T (0, 0))) :
    w.setCell ⟨b, j, none⟩ v = putB w b (.cells (cs.set j v).toArray T (0, 0)) := by
  have hlt : b < w.heap.size := (Array.getElem?_eq_some_iff.1 h).1
  unfold World.setCell putB
  congr 1
  apply Array.ext_getElem?
  intro i
  rw [Array.getElem?_modify, Array.getElem?_setIfInBounds]
  split
  · rename_i e; subst e; rw [h]; simp
  · rfl
theorem putB_get {w : World} {b : Nat} {o : Obj} (h : b < w.heap.size) : (putB w b o).heap[b]? = some o := by simp [putB, h]
theorem putB_get_ne {w : World} {b i : Nat} {o : Obj} (h : i ≠ b) : (putB w b o).heap[i]? = w.heap[i]? := by
  unfold putB; simp only; rw [Array.getElem?_setIfInBounds_ne (Ne.symm h)]
theorem putB_putB {w : World} {b : Nat} {o o' : Obj} : putB (putB w b o) b o' = putB w b o' := by
  unfold putB; congr 1; simp only
  apply Array.ext_getElem?
  intro i
  rw [Array.getElem?_setIfInBounds, Array.getElem?_setIfInBounds, Array.getElem?_setIfInBounds]
  split <;> simp_all
theorem putB_size {w : World} {b : Nat} {o : Obj} : (putB w b o).heap.size = w.heap.size := by simp [putB]
theorem Kept.putB (w : World) (b : Nat) (o : Obj) : Kept w (Vex.putB w b o) := ⟨rfl, rfl, rfl, by rw [putB_size]; exact Nat.le_refl _⟩

theorem oneC_oneCell' {v : Value} (h : oneC v = true) : v.oneCell' = true := by cases v <;> simp_all [oneC, Value.oneCell']

def setMany (cs : List Value) (off : Nat) : List Value → List Value
  | [] => cs
  | v :: r => setMany (cs.set off v) (off + 1) r
theorem setMany_length (cs : List Value) (off : Nat) (vs : List Value) : (setMany cs off vs).length = cs.length := by
  induction vs generalizing cs off with
  | nil => rfl
  | cons v r ih => simp [setMany, ih]
theorem setMany_eq : ∀ (vs cs : List Value) (off : Nat), off + vs.length ≤ cs.length → setMany cs off vs = cs.take off ++ (vs ++ cs.drop (off + vs.length))
  | [], cs, off, _ => by simp [setMany]
  | v :: r, cs, off, h => by
    simp only [List.length_cons] at h
    rw [setMany, setMany_eq r (cs.set off v) (off + 1) (by simp; omega)]
    rw [List.take_add_one]
    simp only [List.take_set_of_le (Nat.le_refl off), List.getElem?_set_self (show off < cs.length by omega), Option.toList_some, List.length_cons]
    rw [List.drop_set_of_lt (by omega), show off + 1 + r.length = off + (r.length + 1) by omega]
    simp

theorem run_storeCells {P : Program} {b : Nat} {T : TypeId} : ∀ (vs : List Value) (w : World) (cs : List Value) (off i : Nat), w.heap[b]? = some (.cells cs.toArray T (0, 0)) →
    off + i + vs.length ≤ cs.length → (∀ v ∈ vs, oneC v = true) →
    (storeCells ⟨b, off, none⟩ vs i).run P w = .ok () (if vs = [] then w else putB w b (.cells (setMany cs (off + i) vs).toArray T (0, 0)))
  | [], w, cs, off, i, h, hl, hv => by simp [storeCells]
  | v :: r, w, cs, off, i, h, hl, hv => by
    simp only [List.length_cons] at hl
    have hlt : b < w.heap.size := (Array.getElem?_eq_some_iff.1 h).1
    have hc : w.cell? ⟨b, off + i, none⟩ = some (cs[off + i]'(by omega)) := by rw [cell_of h]; simp
    have hf : w.frozen? ⟨b, off + i, none⟩ = false := by simp [World.frozen?, h]
    unfold storeCells
    rw [Sem.run_bind, addr_add, run_store _ _ _ _ _ (oneC_oneCell' (hv v (by simp)))]
    simp only [hc, hf, Bool.false_eq_true, if_false, Result.andThen_ok]
    rw [setCell_putB h]
    rw [run_storeCells r _ (cs.set (off + i) v) off (i + 1) (putB_get hlt) (by simp; omega) (fun u hu => hv u (by simp [hu]))]
    simp only [List.cons_ne_nil, if_false]
    rw [setMany]
    split
    · rename_i e; subst e; rfl
    · rw [putB_putB, Nat.add_assoc]

mutual
theorem DenC.ones {ρ : Rho} {x : SV} {cs : List Value} (h : DenC ρ x cs) : ∀ (j : Nat) (c : Value), cs[j]? = some c → oneC c = true :=
  match h with
  | .one c h h1 hx => fun j c' hc => by
      subst h
      cases j with
      | zero => simp at hc; rw [← hc]; exact h1
      | succ j => simp at hc
  | .ints hm h => fun j c hc => by
      subst h
      rw [List.getElem?_map] at hc
      cases hz : (‹List Int›)[j]? with
      | none => simp [hz] at hc
      | some z => simp [hz] at hc; rw [← hc]; rfl
  | .junk hm h => fun j c hc => h c (List.mem_of_getElem? hc)
  | @DenC.rows _ w m f cs hm h => fun j c hc => by
      have hlt : j < m.val * w := by rw [← hm]; exact (List.getElem?_eq_some_iff.1 hc).1
      obtain ⟨e1, e2, e3⟩ := rows_div hlt
      refine DenL.ones (h _ e1) (j % w) c ?_
      rw [drop_take_get _ _ _ _ e2, e3]; exact hc
theorem DenL.ones {ρ : Rho} {x : List SV} {cs : List Value} (h : DenL ρ x cs) : ∀ (j : Nat) (c : Value), cs[j]? = some c → oneC c = true :=
  match h with
  | .nil h => fun j c hc => by subst h; simp at hc
  | .cons c1 c2 h h1 h2 => fun j c hc => by
      subst h
      rcases Nat.lt_or_ge j c1.length with hj | hj
      · rw [List.getElem?_append_left hj] at hc; exact DenC.ones h1 j c hc
      · rw [List.getElem?_append_right hj] at hc; exact DenL.ones h2 _ c hc
end
theorem DenL.ones_mem {ρ : Rho} {x : List SV} {cs : List Value} (h : DenL ρ x cs) : ∀ c ∈ cs, oneC c = true := fun c hc => by
  obtain ⟨j, hj⟩ := List.getElem?_of_mem hc
  exact h.ones j c hj

/-- A store of whatever value. -/
def storeL (l : List SV) (o : Off) (n : Nat) (v : SV) (K : List SV → Prop) : Prop :=
  match v with
  | .agg new => match o with
    | .at m => match setAt l m n new with
      | some l' => K l'
      | none => False
    | .row b i w c => putRows l b i w c n new K
  | .tup _ => False
  | .raw _ => False
  | .ints .. => False
  | .rows .. => False
  | .junk .. => False
  | v => if n = 1 then putOff l o v K else False

theorem HSat.cellsAt {ρ : Rho} {hp : List Blk} {w : World} (h : HSat ρ hp w) {x b o0 : Nat} {T : TypeId} {l : List SV}
    (hx : ρ[x]? = some (some (b, o0))) (hk : hp[x]? = some (.cells T l)) :
    ∃ cs, o0 = 0 ∧ w.heap[b]? = some (.cells cs.toArray T (0, 0)) ∧ DenL ρ l cs ∧
      ∀ cs' l', DenL ρ l' cs' → HSat ρ (hp.set x (.cells T l')) (putB w b (.cells cs'.toArray T (0, 0))) := by
  obtain ⟨ω, h⟩ := h
  have hlt : x < ρ.length := (List.getElem?_eq_some_iff.1 hx).1
  obtain ⟨o, ho⟩ : ∃ o, ω[x]? = some o := ⟨ω[x]'(by rw [h.lenω]; exact hlt), by simp⟩
  obtain ⟨cs, e4, ⟨_, e1, _⟩ | ⟨b', e1, e2, e3⟩⟩ := h.sat x _ o _ hx ho hk
  · cases e1
  simp only [Option.some.injEq, Prod.mk.injEq] at e1
  obtain ⟨rfl, rfl⟩ := e1
  have hb : b < w.heap.size := (Array.getElem?_eq_some_iff.1 e3).1
  refine ⟨cs, rfl, e3, e4, fun cs' l' hd => ⟨ω, h.turn hx ho ⟨cs', hd, .inr ⟨b, rfl, e2, putB_get hb⟩⟩ (by rw [putB_size]; exact Nat.le_refl _) fun i _ hi => putB_get_ne ?_⟩⟩
  rintro rfl
  rw [e2] at hi; simp at hi

theorem den_cells_one {ρ : Rho} {v : SV} {c : Value} (h : Den ρ v c) (hc : oneC c = true) : c.cells.toList = [c] := by cases c <;> simp_all [Value.cells, oneC]

/-- What a store leaves. -/
def stored (b off : Nat) (vs : List Value) (x : World) : World :=
  match x.heap[b]? with
  | some (.cells arr T fz) => putB x b (.cells (setMany arr.toList off vs).toArray T fz)
  | _ => x
theorem run_stored {P : Program} {b off : Nat} {T : TypeId} {vs cs : List Value} {x : World} (h : x.heap[b]? = some (.cells cs.toArray T (0, 0))) (hl : off + vs.length ≤ cs.length) (hv : ∀ v ∈ vs, oneC v = true) :
    (storeCells ⟨b, off, none⟩ vs).run P x = .ok () (stored b off vs x) := by
  rw [run_storeCells vs x cs off 0 h (by omega) hv]
  unfold stored
  rw [h]
  congr 1
  split
  · rename_i e; subst e
    simp only [setMany]
    unfold putB
    have e2 : x.heap.setIfInBounds b (.cells cs.toArray T (0, 0)) = x.heap := by
      apply Array.ext_getElem?
      intro i
      rw [Array.getElem?_setIfInBounds]
      split
      · rename_i e; subst e
        rw [if_pos (Array.getElem?_eq_some_iff.1 h).1, h]
      · rfl
    have e3 : cs.toArray.toList.toArray = cs.toArray := by simp
    rw [e3, e2]
  · simp

theorem HSat.storeL {ρ : Rho} {hp : List Blk} {w : World} (h : HSat ρ hp w) {x b o0 n : Nat} {T : TypeId} {l : List SV} {o : Off} {v : SV} {c : Value} {K : List SV → Prop}
    (hx : ρ[x]? = some (some (b, o0))) (hk : hp[x]? = some (.cells T l)) (hv : Den ρ v c) (hn : c.cells.size = n) (hK : Vex.storeL l o n v K) :
    ∃ (l' : List SV) (cs : List Value), o0 = 0 ∧ w.heap[b]? = some (.cells cs.toArray T (0, 0)) ∧ o.val + c.cells.toList.length ≤ cs.length ∧ (∀ u ∈ c.cells.toList, oneC u = true) ∧
      HSat ρ (hp.set x (.cells T l')) (stored b o.val c.cells.toList w) ∧ K l' := by
  obtain ⟨cs, rfl, e3, e4, e5⟩ := h.cellsAt hx hk
  have est : ∀ off vs, stored b off vs w = putB w b (.cells (setMany cs off vs).toArray T (0, 0)) := by
    intro off vs; unfold stored; rw [e3]
  have hone : ∀ (hs : single v = true) (hc : oneC c = true), (if n = 1 then putOff l o v K else False) →
      ∃ (l' : List SV) (cs : List Value), 0 = 0 ∧ w.heap[b]? = some (.cells (List.toArray cs) T (0, 0)) ∧ o.val + c.cells.toList.length ≤ cs.length ∧ (∀ u ∈ c.cells.toList, oneC u = true) ∧
      HSat ρ (hp.set x (.cells T l')) (stored b o.val c.cells.toList w) ∧ K l' := by
    intro hs hc hK
    split at hK
    · obtain ⟨l', g1, g2, g3⟩ := putOff_sound hv hc hs e4 hK
      rw [den_cells_one hv hc]
      refine ⟨l', cs, rfl, e3, by simp; omega, by simpa using hc, ?_, g3⟩
      rw [est]; simpa [setMany] using e5 _ _ g1
    · exact hK.elim
  cases v with
  | agg new =>
    cases o with
    | row b i w c' =>
      have hK' : putRows l b i w c' n new K := hK
      cases hv with
      | agg vs hc hl =>
        subst hc
        have hlen : vs.length = n := by simpa [Value.cells] using hn
        subst hlen
        obtain ⟨l', g1, g2, g3⟩ := putRows_sound hl l b i w c' K cs e4 hK'
        refine ⟨l', cs, rfl, e3, by simpa [Value.cells, Off.val] using g2, by simpa [Value.cells] using hl.ones_mem, ?_, g3⟩
        have := e5 _ _ (by rw [← setMany_eq vs cs _ g2] at g1; exact g1)
        rw [est]
        simpa [Value.cells, Off.val] using this
    | «at» m =>
      have hK' : match setAt l m n new with | some l' => K l' | none => False := hK
      cases hv with
      | agg vs hc hl =>
        subst hc
        have hlen : vs.length = n := by simpa [Value.cells] using hn
        subst hlen
        split at hK'
        · rename_i l' hl'
          obtain ⟨g1, g2⟩ := setAt_sound e4 hl hl'
          refine ⟨l', cs, rfl, e3, by simpa [Value.cells, Off.val] using g2, by simpa [Value.cells] using hl.ones_mem, ?_, hK'⟩
          have := e5 _ _ (by rw [← setMany_eq vs cs m g2] at g1; exact g1)
          rw [est]
          simpa [Value.cells, Off.val] using this
        · exact hK'.elim
  | tup => exact (show False from hK).elim
  | raw => exact (show False from hK).elim
  | ints => exact (show False from hK).elim
  | rows => exact (show False from hK).elim
  | junk => exact (show False from hK).elim
  | i => exact hone rfl (by cases hv with | i h => subst h; rfl) hK
  | b => exact hone rfl (by cases hv with | b h => subst h; rfl) hK
  | str => exact hone rfl (by cases hv with | str h => subst h; rfl) hK
  | p => exact hone rfl (by cases hv with | p _ _ _ h => subst h; rfl) hK
  | nilp => exact hone rfl (by cases hv with | nilp h => subst h; rfl) hK
  | slc => exact hone rfl (by cases hv with | slc _ _ _ h => subst h; rfl) hK
  | slr => exact hone rfl (by cases hv with | slr _ _ _ h => subst h; rfl) hK
  | nilslc => exact hone rfl (by cases hv with | nilslc h => subst h; rfl) hK
  | fn => exact hone rfl (by cases hv with | fn _ _ h _ _ => subst h; rfl) hK
  | nilfn => exact hone rfl (by cases hv with | nilfn h => subst h; rfl) hK
  | ifc => exact hone rfl (by cases hv with | ifc _ h _ => subst h; rfl) hK
  | nilifc => exact hone rfl (by cases hv with | nilifc h => subst h; rfl) hK
  | map => exact hone rfl (by cases hv with | map _ _ h => subst h; rfl) hK
  | nilmap => exact hone rfl (by cases hv with | nilmap h => subst h; rfl) hK
end
end Go.Vex
end

/-
  VEX, draws, 2: what single operations do to all worlds in which they may be carried out; which of them commute.
-/
section
namespace Go.Vex

/-- It reads these cells. -/
def rdB (b off : Nat) (cs : List Value) (u : Value) : Beh := Beh.det (fun x => ∀ (j : Nat) (c : Value), cs[j]? = some c → x.cell? ⟨b, off + j, none⟩ = some c) id fun _ => u
/-- It writes these cells. -/
abbrev wrW := stored
def wrB (b off : Nat) (vs : List Value) (T : TypeId) : Beh :=
  Beh.det (fun x => ∃ cs : List Value, x.heap[b]? = some (.cells cs.toArray T (0, 0)) ∧ off + vs.length ≤ cs.length) (wrW b off vs) fun _ => undef
/-- It makes a block. -/
def newB (N : Nat) (o : Obj) (mk : Nat → Value) : Beh := Beh.det (fun x => N ≤ x.heap.size) (fun x => x.alloc o) fun x => mk x.heap.size
/-- It calls what reads alone. -/
def qcB (w : World) (u : Value) : Beh := Beh.det (fun x => x.heap = w.heap ∧ x.os = w.os ∧ x.tape = w.tape ∧ x.output = w.output) id fun _ => u

theorem rdB_inv (b off : Nat) (cs : List Value) (u : Value) : (rdB b off cs u).Inv := Beh.det_inv (fun _ _ h => h) (fun _ _ => rfl) (fun _ _ => rfl)
theorem wrB_inv (b off : Nat) (vs : List Value) (T : TypeId) : (wrB b off vs T).Inv := by
  refine Beh.det_inv (fun _ _ h => h) (fun x n => ?_) (fun _ _ => rfl)
  show stored b off vs { x with drawn := n } = { stored b off vs x with drawn := n }
  unfold stored
  show (match x.heap[b]? with | _ => _) = _
  cases h : x.heap[b]? with
  | none => rfl
  | some o => cases o <;> rfl
theorem newB_inv (N : Nat) (o : Obj) (mk : Nat → Value) : (newB N o mk).Inv := Beh.det_inv (fun _ _ h => h) (fun _ _ => rfl) (fun _ _ => rfl)
/-- It reads blocks that were there. -/
def mpB (w : World) (u : Value) : Beh := Beh.det (fun x => ∀ (b : Nat) (o : Obj), w.heap[b]? = some o → x.heap[b]? = some o) id fun _ => u
theorem mpB_inv (w : World) (u : Value) : (mpB w u).Inv := Beh.det_inv (fun _ _ h => h) (fun _ _ => rfl) (fun _ _ => rfl)
theorem qcB_inv (w : World) (u : Value) : (qcB w u).Inv := Beh.det_inv (fun _ _ h => h) (fun _ _ => rfl) (fun _ _ => rfl)

end Go.Vex
end

/-
  VEX, draws, 3: what is checked of a drawing region beforehand, by computation.
-/
section
namespace Go.Vex

/-! ### Who stands ahead of whom -/
theorem ordB_mono {ops : Array Oper} : ∀ (F n i k : Nat), ordB ops F i k = true → ordB ops (F + n) i k = true
  | 0, n, i, k, h => by simp [ordB] at h
  | F + 1, n, i, k, h => by
    rw [show F + 1 + n = (F + n) + 1 by omega]
    unfold ordB at h ⊢
    split at h
    · cases h
    · rename_i o ho
      obtain ⟨e, he, hb⟩ := Array.any_eq_true'.1 h
      refine Array.any_eq_true'.2 ⟨e, he, ?_⟩
      simp only [Bool.and_eq_true, Bool.or_eq_true] at hb ⊢
      exact ⟨hb.1, hb.2.imp id fun h => ordB_mono F n i e.on h⟩
theorem Before.edge {ops : Array Oper} {k : Nat} {o : Oper} (ho : ops[k]? = some o) {e : Edge} (he : e ∈ o.after) (hb : Region.binds .any e = true) : Before ops e.on k :=
  ⟨1, by unfold ordB; rw [ho]; exact Array.any_eq_true'.2 ⟨e, he, by simp [hb]⟩⟩
theorem Before.behind {ops : Array Oper} {k i : Nat} {o : Oper} (ho : ops[k]? = some o) {e : Edge} (he : e ∈ o.after) (hb : Region.binds .any e = true) (h : Before ops i e.on) : Before ops i k := by
  obtain ⟨F, h⟩ := h
  exact ⟨F + 1, by unfold ordB; rw [ho]; exact Array.any_eq_true'.2 ⟨e, he, by simp [hb, h]⟩⟩
theorem Before.trans {ops : Array Oper} {i j k : Nat} (h1 : Before ops i j) (h2 : Before ops j k) : Before ops i k := by
  obtain ⟨F, h2⟩ := h2
  induction F generalizing k with
  | zero => simp [ordB] at h2
  | succ F ih =>
    unfold ordB at h2
    split at h2
    · cases h2
    · rename_i o ho
      obtain ⟨e, he, hb⟩ := Array.any_eq_true'.1 h2
      simp only [Bool.and_eq_true, Bool.or_eq_true, beq_iff_eq] at hb
      rcases hb.2 with h | h
      · subst h; exact h1.behind ho he hb.1
      · exact (ih h).behind ho he hb.1

def predE : List Edge → List Nat → Nat
  | [], _ => 0
  | e :: r, acc => if Region.binds .any e = true then predE r acc ||| ((1 <<< e.on) ||| acc.getD e.on 0) else predE r acc
def predsL : List Oper → List Nat → List Nat
  | [], acc => acc
  | o :: r, acc => predsL r (acc ++ [predE o.after.toList acc])

theorem predE_sound {acc : List Nat} {j : Nat} : ∀ {es : List Edge}, (predE es acc).testBit j = true → ∃ e ∈ es, Region.binds .any e = true ∧ (e.on = j ∨ (acc.getD e.on 0).testBit j = true)
  | [], h => by simp [predE] at h
  | e :: r, h => by
    unfold predE at h
    split at h
    · rename_i hb
      rw [Nat.testBit_or, Nat.testBit_or, Nat.one_shiftLeft, Nat.testBit_two_pow] at h
      simp only [Bool.or_eq_true, decide_eq_true_eq] at h
      rcases h with h | h
      · obtain ⟨e', he', h'⟩ := predE_sound h; exact ⟨e', by simp [he'], h'⟩
      · exact ⟨e, by simp, hb, h⟩
    · obtain ⟨e', he', h'⟩ := predE_sound h; exact ⟨e', by simp [he'], h'⟩

theorem predsL_sound {ops : Array Oper} : ∀ (l : List Oper) (acc : List Nat), (∀ j, l[j]? = ops[acc.length + j]?) → (∀ k j, (acc.getD k 0).testBit j = true → Before ops j k) →
    ∀ k j, ((predsL l acc).getD k 0).testBit j = true → Before ops j k
  | [], acc, _, h => h
  | o :: r, acc, hl, h => by
    unfold predsL
    refine predsL_sound r _ (fun j => ?_) fun k j hk => ?_
    · have := hl (j + 1); simp only [List.getElem?_cons_succ] at this; rw [this]; simp [Nat.add_comm, Nat.add_left_comm]
    · rw [List.getD_eq_getElem?_getD] at hk
      rcases Nat.lt_trichotomy k acc.length with hk' | hk' | hk'
      · rw [List.getElem?_append_left hk', ← List.getD_eq_getElem?_getD] at hk; exact h k j hk
      · subst hk'
        simp only [List.getElem?_concat_length, Option.getD_some] at hk
        have ho : ops[acc.length]? = some o := by have := hl 0; simpa using this.symm
        obtain ⟨e, he, hb, hj⟩ := predE_sound hk
        have he' : e ∈ o.after := by simpa using he
        rcases hj with hj | hj
        · subst hj; exact .edge ho he' hb
        · exact (h _ _ hj).behind ho he' hb
      · rw [List.getElem?_eq_none (by simp; omega)] at hk; simp at hk

def preds (ops : List Oper) : List Nat := predsL ops []
theorem preds_sound {ops : Array Oper} {k j : Nat} (h : ((preds ops.toList).getD k 0).testBit j = true) : Before ops j k :=
  predsL_sound ops.toList [] (fun j => by simp) (by simp) k j h

/-- No other may pass it. -/
def barB (ps : List Nat) (n k : Nat) : Bool := (List.range n).all fun j => if j < k then (ps.getD k 0).testBit j else if j = k then true else (ps.getD j 0).testBit k
theorem barB_sound {ops : Array Oper} {k : Nat} (h : barB (preds ops.toList) ops.size k = true) : (∀ j, j < k → k < ops.size → Before ops j k) ∧ ∀ i, k < i → i < ops.size → Before ops k i := by
  unfold barB at h
  rw [List.all_eq_true] at h
  constructor
  · intro j hj hk
    have := h j (by simp; omega)
    rw [if_pos hj] at this
    exact preds_sound this
  · intro i hi hn
    have := h i (by simp; omega)
    rw [if_neg (by omega), if_neg (by omega)] at this
    exact preds_sound this

def isCall : Op → Bool
  | .call c => match c.callee with
    | .builtin _ => false
    | _ => true
  | _ => false
/-- What is told of a region: has it anything told; which loads read blocks that nobody turns, which calls touch nothing (z); which calls act (e); the blocks that nobody turns. -/
structure DO where
  ov : Bool
  z : Nat → Bool
  e : Nat → Bool
  prot : List Nat
  /-- Which lengths are those of maps. -/
  m : Nat → Bool
def memC : List Nat → Nat → Bool
  | [], _ => false
  | x :: r, n => if x = n then true else memC r n
def hasC (lo hi : Nat) : List Nat → Bool
  | [] => false
  | x :: r => (decide (lo - x = 0) && decide (x + 1 - hi = 0)) || hasC lo hi r
def protC (lo : Nat) : List Nat → List Nat
  | [] => []
  | x :: r => if (decide (lo - x = 0) && decide (x + 1 - (lo + 1000) = 0)) = true then (x - lo) :: protC lo r else protC lo r
def ovB (ob : List Nat) (id : Nat) : Bool := hasC (2000000 + id * 1000) (2000000 + id * 1000 + 1000) ob || (hasC (3000000 + id * 1000) (3000000 + id * 1000 + 1000) ob || hasC (4000000 + id * 1000) (4000000 + id * 1000 + 1000) ob)
def ovr (ob : List Nat) (id : Nat) : DO := match ovB ob id with
  | true => ⟨true, fun k => memC ob (2000000 + id * 1000 + k), fun k => memC ob (3000000 + id * 1000 + k), protC (4000000 + id * 1000) ob, fun k => memC ob (5000000 + id * 1000 + k)⟩
  | false => ⟨false, fun _ => false, fun _ => false, [], fun k => memC ob (5000000 + id * 1000 + k)⟩
theorem ovr_off {ob : List Nat} {id : Nat} (h : (ovr ob id).ov = false) : (∀ k, (ovr ob id).z k = false ∧ (ovr ob id).e k = false) ∧ (ovr ob id).prot = [] := by
  unfold ovr at *
  split at h
  · cases h
  · rename_i e; exact ⟨fun _ => ⟨rfl, rfl⟩, rfl⟩
def D0 : DO := ⟨false, fun _ => false, fun _ => false, [], fun _ => false⟩
def plainOb (ob : List Nat) : Bool := ob.all fun x => Nat.ble (x + 1) 2000000
theorem ovr_plain {ob : List Nat} (h : plainOb ob = true) (id : Nat) : ovr ob id = D0 := by
  have hx : ∀ x ∈ ob, x < 2000000 := fun x hx => Nat.le_of_ble_eq_true (List.all_eq_true.1 h x hx)
  have hc : ∀ (l : List Nat) lo hi, (∀ x ∈ l, x < 2000000) → 2000000 ≤ lo → hasC lo hi l = false := by
    intro l lo hi
    induction l with
    | nil => intros; rfl
    | cons x r ih =>
      intro h hlo
      have h1 := h x (by simp)
      have h2 : decide (lo - x = 0) = false := by rw [decide_eq_false_iff_not]; omega
      simp only [hasC, h2, Bool.false_and, Bool.false_or]
      exact ih (fun y hy => h y (by simp [hy])) hlo
  have hv : ovB ob id = false := by
    unfold ovB
    rw [hc ob _ _ hx (by omega), hc ob _ _ hx (by omega), hc ob _ _ hx (by omega)]; rfl
  have hm : (fun k => memC ob (5000000 + id * 1000 + k)) = fun _ => false := by
    funext k
    have : ∀ l : List Nat, (∀ x ∈ l, x < 2000000) → memC l (5000000 + id * 1000 + k) = false := by
      intro l
      induction l with
      | nil => intro _; rfl
      | cons x r ih =>
        intro h
        have h1 := h x (by simp)
        unfold memC
        rw [if_neg (by omega)]
        exact ih fun y hy => h y (by simp [hy])
    exact this ob hx
  unfold ovr D0
  rw [hv, hm]
/-- An operation's class. -/
def isLook : Op → Bool
  | .lookup .. => true
  | _ => false
def isLenO : Op → Bool
  | .call c => match c.callee with
    | .builtin b => match b with
      | .len => true
      | _ => false
    | _ => false
  | _ => false
/-- Does it look into a map? -/
def lookD (D : DO) (o : Op) (k : Nat) : Bool := isLook o || (D.m k && isLenO o)
theorem lookD_call {D : DO} {o : Op} {k : Nat} (h : isCall o = true) : lookD D o k = false := by
  cases o <;> try (simp [isCall] at h; done)
  rename_i c
  obtain ⟨callee, args, argTypes⟩ := c
  cases callee with
  | builtin b => simp [isCall] at h
  | _ => simp [lookD, isLook, isLenO]
def clD (D : DO) (o : Op) (k : Nat) : Nat := if D.z k = true then (if isCall o = true then 7 else 0) else if (isCall o && D.e k) = true then 3 else if lookD D o k = true then 1 else clsOp o
def clA (D : DO) (ops : Array Oper) (k : Nat) : Nat := match ops[k]? with
  | some o => clD D o.op k
  | none => 3
def okPair (D : DO) (ops : Array Oper) (a b : Oper) (k i : Nat) : Bool := a.apart ops b && pairB (clD D a.op k) (clD D b.op i)
def isDefer : Op → Bool
  | .defer _ => true
  | _ => false
def drawChk (D : DO) (ops : Array Oper) : Bool := Region.noSelect ops && lowB ops.toList && (ops.toList.all fun o => !isDefer o.op) &&
  (let ps := preds ops.toList
   (List.range ops.size).all fun i => (List.range i).all fun k => match ops[k]? with
    | none => true
    | some a => match ops[i]? with
      | none => true
      | some b => (ps.getD i 0).testBit k || okPair D ops a b k i)
theorem drawChk_sound {D : DO} {ops : Array Oper} (h : drawChk D ops = true) : Region.noSelect ops = true ∧ lowB ops.toList = true ∧
    ∀ k i ok oi, k < i → ops[k]? = some ok → ops[i]? = some oi → Before ops k i ∨ (ok.apart ops oi = true ∧ PairOk (clA D ops k) (clA D ops i)) := by
  unfold drawChk at h
  simp only [Bool.and_eq_true] at h
  obtain ⟨⟨⟨h1, h2⟩, _⟩, h3⟩ := h
  refine ⟨h1, h2, fun k i ok oi hki hk hi => ?_⟩
  have hlt := (Array.getElem?_eq_some_iff.1 hi).1
  have := List.all_eq_true.1 (List.all_eq_true.1 h3 i (by simpa using hlt)) k (by simpa using hki)
  rw [hk, hi] at this
  simp only [Bool.or_eq_true] at this
  rcases this with h | h
  · exact .inl (preds_sound h)
  · unfold okPair at h
    simp only [Bool.and_eq_true] at h
    refine .inr ⟨h.1, ?_⟩
    unfold PairOk clA
    rw [hk, hi]
    exact h.2

theorem drawChk_nd {D : DO} {ops : Array Oper} (h : drawChk D ops = true) : ∀ (i : Nat) o, ops[i]? = some o → isDefer o.op = false := by
  unfold drawChk at h
  simp only [Bool.and_eq_true] at h
  intro i o ho
  have := List.all_eq_true.1 h.1.2 o (by
    rw [← Array.getElem?_toList] at ho
    exact List.mem_of_getElem? ho)
  simpa using this
def drawsChkO (ob : List Nat) : Code → Bool
  | .region id ops d => match d with
    | true => drawChk (ovr ob id) ops
    | false => true
  | .seq a b => drawsChkO ob a && drawsChkO ob b
  | .cond _ a b => drawsChkO ob a && drawsChkO ob b
  | .block _ b => drawsChkO ob b
  | .scope b => drawsChkO ob b
  | .loop b => drawsChkO ob b
  | .rangeFunc _ _ a b => drawsChkO ob a && drawsChkO ob b
  | _ => true
def drawsChk : Code → Bool
  | .region _ ops d => match d with
    | true => drawChk D0 ops
    | false => true
  | .seq a b => drawsChk a && drawsChk b
  | .cond _ a b => drawsChk a && drawsChk b
  | .block _ b => drawsChk b
  | .scope b => drawsChk b
  | .loop b => drawsChk b
  | .rangeFunc _ _ a b => drawsChk a && drawsChk b
  | _ => true
theorem drawsChk_plain {ob : List Nat} (h : plainOb ob = true) : ∀ c : Code, drawsChkO ob c = drawsChk c := by
  intro c
  induction c with
  | region id ops d => unfold drawsChkO drawsChk; rw [ovr_plain h]
  | seq a b iha ihb => unfold drawsChkO drawsChk; rw [iha, ihb]
  | cond c a b iha ihb => unfold drawsChkO drawsChk; rw [iha, ihb]
  | block id b ih => unfold drawsChkO drawsChk; rw [ih]
  | scope b ih => unfold drawsChkO drawsChk; rw [ih]
  | loop b ih => unfold drawsChkO drawsChk; rw [ih]
  | rangeFunc f ps a b iha ihb => unfold drawsChkO drawsChk; rw [iha, ihb]
  | _ => rfl
end Go.Vex
end

/-
  VEX, '==' of structs and arrays of numbers and bools.
-/
section
namespace Go.Vex

theorem run_underlying' {P : Program} {t : Nat} {d : TypeDesc} (h : P.underlying t = some d) (w : World) : (underlying t).run P w = .ok d w := by
  simp [underlying, h]
theorem run_typeInfo' {P : Program} {t : Nat} {i : TypeInfo} (h : P.info? t = some i) (w : World) : (typeInfo t).run P w = .ok i w := by
  simp [typeInfo, h]

/-- A cell: of such a kind, or a bool. -/
abbrev FK := Option IntKind
def fits1 : FK → Value → Bool
  | some k, .int k' _ => decide (k = k')
  | none, .bool _ => true
  | _, _ => false
def fitsL : List FK → List Value → Bool
  | [], [] => true
  | k :: ks, c :: cs => fits1 k c && fitsL ks cs
  | _, _ => false
theorem fitsL_length : ∀ {ks : List FK} {cs : List Value}, fitsL ks cs = true → cs.length = ks.length
  | [], [], _ => rfl
  | k :: ks, c :: cs, h => by simp [fitsL] at h; simp [fitsL_length h.2]
  | [], _ :: _, h => by simp [fitsL] at h
  | _ :: _, [], h => by simp [fitsL] at h
theorem fitsL_append : ∀ {ks ms : List FK} {cs : List Value}, fitsL (ks ++ ms) cs = true → fitsL ks (cs.take ks.length) = true ∧ fitsL ms (cs.drop ks.length) = true
  | [], ms, cs, h => by simpa [fitsL] using h
  | k :: ks, ms, [], h => by simp [fitsL] at h
  | k :: ks, ms, c :: cs, h => by
    simp only [List.cons_append, fitsL, Bool.and_eq_true] at h
    have := fitsL_append h.2
    simp only [List.length_cons, List.take_succ_cons, List.drop_succ_cons, fitsL, Bool.and_eq_true]
    exact ⟨⟨h.1, this.1⟩, this.2⟩

def flatFs (g : TypeId → Option (List FK)) : List Field → Nat → Option (List FK)
  | [], _ => some []
  | f :: r, off => if f.name = "_" then none else if f.offset = off then (match g f.type with
    | some l => match flatFs g r (off + l.length) with
      | some m => some (l ++ m)
      | none => none
    | none => none) else none
def flatP (P : Program) : Nat → TypeId → Option (List FK)
  | 0, _ => none
  | n + 1, t => match P.info? t with
    | none => none
    | some i => match (match P.underlying t with
        | some .bool => some [none]
        | some (.int k) => some [some k]
        | some (.array m e) => match flatP P n e with
          | some l => some (List.replicate m l).flatten
          | none => none
        | some (.struct fs) => if P.stoodInHeld t = true then none else flatFs (flatP P n) fs.toList 0
        | _ => none) with
      | some l => if i.size = l.length then some l else none
      | none => none

def aggP (P : Program) (t : TypeId) : Bool :=
  match P.underlying t with
  | some (.struct _) => true
  | some (.array ..) => true
  | _ => false
/-- x is the value whose cells are xs. -/
def WholeAt (P : Program) (t : TypeId) (x : Value) (xs : List Value) : Prop := if aggP P t = true then x = .agg xs.toArray else xs = [x]

theorem flatP_info {P : Program} {n : Nat} {t : TypeId} {ks : List FK} (h : flatP P n t = some ks) : ∃ i d, P.info? t = some i ∧ P.underlying t = some d ∧ i.size = ks.length ∧ (aggP P t = false → ks.length = 1) := by
  cases n with
  | zero => simp [flatP] at h
  | succ n =>
    unfold flatP at h
    split at h
    · cases h
    · rename_i i hi
      split at h
      · rename_i l hl
        split at h
        · rename_i hs
          cases h
          split at hl
          · rename_i hu; cases hl; exact ⟨i, _, hi, hu, hs, fun _ => rfl⟩
          · rename_i hu; cases hl; exact ⟨i, _, hi, hu, hs, fun _ => rfl⟩
          · rename_i hu; exact ⟨i, _, hi, hu, hs, fun e => by simp [aggP, hu] at e⟩
          · rename_i hu; exact ⟨i, _, hi, hu, hs, fun e => by simp [aggP, hu] at e⟩
          · cases hl
        · cases h
      · cases h

theorem run_isAggP {P : Program} {t : TypeId} {d : TypeDesc} (h : P.underlying t = some d) (w : World) : (isAgg t).run P w = .ok (aggP P t) w := by
  unfold isAgg aggP
  rw [Sem.run_bind, run_underlying' h w, Result.andThen_ok, h]
  cases d <;> rfl

theorem run_partP {P : Program} {n : Nat} {t : TypeId} {ks : List FK} (h : flatP P n t = some ks) (cs : List Value) (off : Nat) (hl : off + ks.length ≤ cs.length) :
    ∃ x, (∀ w, (part t cs.toArray off).run P w = .ok x w) ∧ WholeAt P t x ((cs.drop off).take ks.length) := by
  obtain ⟨i, d, h1, h2, h3, h4⟩ := flatP_info h
  by_cases ha : aggP P t = true
  · refine ⟨.agg ((cs.drop off).take ks.length).toArray, fun w => ?_, by unfold WholeAt; rw [if_pos ha]⟩
    unfold part
    simp only [Sem.run_bind, run_isAggP h2, Result.andThen_ok, ha, if_true, sizeOf, run_typeInfo' h1, Sem.run_pure, h3]
    congr 2
    apply Array.ext'
    simp [List.extract_eq_take_drop]
  · have ha' : aggP P t = false := by simpa using ha
    have hk := h4 ha'
    have hlt : off < cs.length := by omega
    refine ⟨cs[off], fun w => ?_, ?_⟩
    · unfold part
      simp only [Sem.run_bind, run_isAggP h2, Result.andThen_ok, ha', Bool.false_eq_true, if_false]
      have : cs.toArray[off]? = some cs[off] := by simp [hlt]
      simp only [this, Sem.run_pure]
    · unfold WholeAt
      rw [if_neg ha, hk]
      rw [List.drop_eq_getElem_cons hlt]; rfl

def eqC : Value → Value → Bool
  | .int _ a, .int _ b => a == b
  | .bool a, .bool b => a == b
  | _, _ => false
def eqCs : List Value → List Value → Bool
  | [], [] => true
  | c :: cs, d :: ds => eqC c d && eqCs cs ds
  | _, _ => false
theorem eqCs_append : ∀ {a b c d : List Value}, a.length = b.length → eqCs (a ++ c) (b ++ d) = (eqCs a b && eqCs c d)
  | [], [], c, d, _ => by simp [eqCs]
  | x :: a, y :: b, c, d, h => by
    simp only [List.cons_append, eqCs]
    rw [eqCs_append (by simpa using h), Bool.and_assoc]
  | [], _ :: _, c, d, h => by simp at h
  | _ :: _, [], c, d, h => by simp at h
theorem eqCs_split (k : Nat) {xs ys : List Value} (h : xs.length = ys.length) : eqCs xs ys = (eqCs (xs.take k) (ys.take k) && eqCs (xs.drop k) (ys.drop k)) := by
  rw [← eqCs_append (by simp [h]), List.take_append_drop, List.take_append_drop]

def EqAtP (P : Program) (n : Nat) : Prop := ∀ t ks, flatP P n t = some ks → ∀ d w x y xs ys, n ≤ d → WholeAt P t x xs → WholeAt P t y ys → fitsL ks xs = true → fitsL ks ys = true →
  (Op.equalIn d t x y).run P w = .ok (eqCs xs ys) w

theorem run_eqFields_flat {P : Program} {m d : Nat} (IH : EqAtP P m) (hd : m ≤ d) (xs ys : List Value) : ∀ (fs : List Field) (off : Nat) (ks : List FK) (w : World), flatFs (flatP P m) fs off = some ks → off ≤ xs.length → off ≤ ys.length →
    fitsL ks (xs.drop off) = true → fitsL ks (ys.drop off) = true → (Op.eqFields d xs.toArray ys.toArray fs).run P w = .ok (eqCs (xs.drop off) (ys.drop off)) w
  | [], off, ks, w, h, _, _, hx, hy => by
    simp only [flatFs, Option.some.injEq] at h
    subst h
    have e1 : xs.drop off = [] := List.length_eq_zero_iff.1 (fitsL_length hx)
    have e2 : ys.drop off = [] := List.length_eq_zero_iff.1 (fitsL_length hy)
    rw [e1, e2]; simp [Op.eqFields, eqCs]
  | f :: r, off, ks, w, h, ox, oy, hx, hy => by
    unfold flatFs at h
    split at h
    · cases h
    · rename_i hn
      split at h
      · rename_i ho
        split at h
        · rename_i l hl
          split at h
          · rename_i k2 hk2
            cases h
            have lx := fitsL_length hx
            have ly := fitsL_length hy
            simp only [List.length_drop, List.length_append] at lx ly
            obtain ⟨fx1, fx2⟩ := fitsL_append hx
            obtain ⟨fy1, fy2⟩ := fitsL_append hy
            rw [List.drop_drop] at fx2 fy2
            have ih := fun w => run_eqFields_flat IH hd xs ys r (off + l.length) k2 w hk2 (by omega) (by omega) fx2 fy2
            obtain ⟨a, ra, wa⟩ := run_partP hl xs off (by omega)
            obtain ⟨b, rb, wb⟩ := run_partP hl ys off (by omega)
            have he := IH f.type l hl d w a b _ _ hd wa wb fx1 fy1
            simp only [Op.eqFields, hn, ne_eq, not_false_eq_true, if_true, Sem.run_bind, ho, ra, rb, he, Result.andThen_ok]
            rw [eqCs_split l.length (xs := xs.drop off) (ys := ys.drop off) (by simp; omega)]
            simp only [List.drop_drop]
            cases hc : eqCs ((xs.drop off).take l.length) ((ys.drop off).take l.length)
            · simp
            · simp [ih]
          · cases h
        · cases h
      · cases h

theorem run_eqItems_flat {P : Program} {m d e : Nat} {l : List FK} (IH : EqAtP P m) (hd : m ≤ d) (hl : flatP P m e = some l) (xs ys : List Value) : ∀ (k j : Nat) (w : World),
    fitsL (List.replicate k l).flatten (xs.drop (j * l.length)) = true → fitsL (List.replicate k l).flatten (ys.drop (j * l.length)) = true → j * l.length ≤ xs.length → j * l.length ≤ ys.length →
    (Op.eqItems d e l.length xs.toArray ys.toArray (List.range' j k)).run P w = .ok (eqCs (xs.drop (j * l.length)) (ys.drop (j * l.length))) w
  | 0, j, w, hx, hy, _, _ => by
    have e1 : xs.drop (j * l.length) = [] := List.length_eq_zero_iff.1 (fitsL_length hx)
    have e2 : ys.drop (j * l.length) = [] := List.length_eq_zero_iff.1 (fitsL_length hy)
    rw [e1, e2]; simp [Op.eqItems, eqCs]
  | k + 1, j, w, hx, hy, ox, oy => by
    rw [List.replicate_succ, List.flatten_cons] at hx hy
    have lx := fitsL_length hx
    have ly := fitsL_length hy
    simp only [List.length_drop, List.length_append] at lx ly
    obtain ⟨fx1, fx2⟩ := fitsL_append hx
    obtain ⟨fy1, fy2⟩ := fitsL_append hy
    have ej : (j + 1) * l.length = j * l.length + l.length := Nat.succ_mul _ _
    rw [List.drop_drop, ← ej] at fx2 fy2
    have ih := fun w => run_eqItems_flat IH hd hl xs ys k (j + 1) w fx2 fy2 (by omega) (by omega)
    obtain ⟨a, ra, wa⟩ := run_partP hl xs (j * l.length) (by omega)
    obtain ⟨b, rb, wb⟩ := run_partP hl ys (j * l.length) (by omega)
    have he := IH e l hl d w a b _ _ hd wa wb fx1 fy1
    rw [List.range'_succ]
    simp only [Op.eqItems, Sem.run_bind, ra, rb, he, Result.andThen_ok]
    rw [eqCs_split l.length (xs := xs.drop (j * l.length)) (ys := ys.drop (j * l.length)) (by simp; omega)]
    simp only [List.drop_drop, ← ej]
    cases hc : eqCs ((xs.drop (j * l.length)).take l.length) ((ys.drop (j * l.length)).take l.length)
    · simp
    · simp [ih]

theorem EqAtP.all {P : Program} : ∀ n, EqAtP P n := by
  intro n
  induction n using Nat.strongRecOn with
  | ind n ih =>
    intro t ks h d w x y xs ys hd wx wy fx fy
    cases n with
    | zero => simp [flatP] at h
    | succ n =>
      cases d with
      | zero => omega
      | succ d =>
        unfold flatP at h
        split at h
        · cases h
        · rename_i i hi
          split at h
          · rename_i l hl
            split at h
            · rename_i hs
              cases h
              split at hl
              · rename_i hu
                cases hl
                have ha : aggP P t = false := by simp [aggP, hu]
                unfold WholeAt at wx wy
                rw [if_neg (by simp [ha])] at wx wy
                subst wx; subst wy
                simp only [fitsL, Bool.and_true] at fx fy
                unfold fits1 at fx fy
                cases x <;> simp at fx
                cases y <;> simp at fy
                rw [run_equalIn_bool' w d t _ _ hu]; simp [eqCs, eqC]
              · rename_i k hu
                cases hl
                have ha : aggP P t = false := by simp [aggP, hu]
                unfold WholeAt at wx wy
                rw [if_neg (by simp [ha])] at wx wy
                subst wx; subst wy
                simp only [fitsL, Bool.and_true] at fx fy
                unfold fits1 at fx fy
                cases x <;> simp at fx
                cases y <;> simp at fy
                subst fx; subst fy
                rw [run_equalIn_int w d t _ _ _ _ hu]; simp [eqCs, eqC]
              · rename_i m e hu
                split at hl
                · rename_i l' hl'
                  cases hl
                  have ha : aggP P t = true := by simp [aggP, hu]
                  unfold WholeAt at wx wy
                  rw [if_pos ha] at wx wy
                  subst wx; subst wy
                  obtain ⟨ie, de, hie, hue, hse, _⟩ := flatP_info hl'
                  rw [run_equalIn_array w d _ _ hu hie]
                  have hc : P.cellsOf e = l'.length := by rw [← hse]; simp [Program.cellsOf, hie]
                  rw [hc, List.range_eq_range']
                  have := run_eqItems_flat (ih n (by omega)) (by omega : n ≤ d) hl' xs ys m 0 w (by simpa using fx) (by simpa using fy) (by simp) (by simp)
                  simpa using this
                · cases hl
              · rename_i fs hu
                split at hl
                · cases hl
                · rename_i hst
                  have ha : aggP P t = true := by simp [aggP, hu]
                  unfold WholeAt at wx wy
                  rw [if_pos ha] at wx wy
                  subst wx; subst wy
                  have hfs : P.fieldsOf t = fs := by simp [Program.fieldsOf, hu]
                  rw [run_equalIn_struct w d t _ _ (by rw [hfs]; exact hu) (by simpa using hst), hfs]
                  have := run_eqFields_flat (ih n (by omega)) (by omega : n ≤ d) xs ys fs.toList 0 _ w hl (by simp) (by simp) (by simpa using fx) (by simpa using fy)
                  simpa using this
              · cases hl
            · cases h
          · cases h
end Go.Vex
end

/-
  VEX, part 4: types; single operations: what they do to symbolic values, and that the model does so.
-/
section
namespace Go.Vex
noncomputable section

inductive TK where
  | int (k : IntKind)
  | bool
  | str
  | ptr (e : Nat)
  | slice (e : Nat)
  | array (n e : Nat)
  | struct (fs : List (Nat × Nat))
  | map (k e : Nat)
  | iface
  | func
  | other
structure TI where
  kind : TK
  size : Nat
  bytes : Nat
  zero : List SV
  flat : List FK
inductive Tree where
  | leaf
  | node (k : Nat) (v : TI) (l r : Tree)
def Tree.find : Tree → Nat → Option TI
  | .leaf, _ => none
  | .node k v l r, t => if t = k then some v else if t < k then l.find t else r.find t

def isAggK : TK → Bool
  | .array .. | .struct _ => true
  | _ => false

def kindOk : TK → TypeDesc → Prop
  | .int k, d => d = .int k
  | .bool, d => d = .bool
  | .str, d => d = .string
  | .ptr e, d => d = .pointer e
  | .slice e, d => d = .slice e
  | .array n e, d => d = .array n e
  | .struct fs, d => ∃ arr, d = .struct arr ∧ arr.size = fs.length ∧ ∀ (j off t : Nat), fs[j]? = some (off, t) → ∃ f, arr[j]? = some f ∧ f.offset = off ∧ f.type = t
  | .map k e, d => d = .map k e
  | .iface, d => ∃ ms, d = .interface ms
  | .func, d => ∃ a b c, d = .func a b c
  | .other, d => (∀ fs, d ≠ .struct fs) ∧ ∀ n e, d ≠ .array n e

def TIok (P : Program) (t : Nat) (ti : TI) : Prop :=
  ∃ i d z, P.info? t = some i ∧ P.underlying t = some d ∧ i.size = ti.size ∧ i.bytes = ti.bytes ∧ i.zero = some z ∧ DenL [] ti.zero z.cells.toList ∧ kindOk ti.kind d ∧ (ti.flat ≠ [] → flatP P 9 t = some ti.flat ∧ P.eqGuardType P.depth t = false)
def TOk (P : Program) (T : Tree) : Prop := ∀ t ti, T.find t = some ti → TIok P t ti

def Tree.All (P : Program) : Tree → Prop
  | .leaf => True
  | .node k v l r => TIok P k v ∧ l.All P ∧ r.All P
theorem Tree.All.ok {P : Program} : ∀ {T : Tree}, T.All P → TOk P T
  | .leaf, _, t, ti, h => by simp [Tree.find] at h
  | .node k v l r, ⟨h1, h2, h3⟩, t, ti, h => by
    unfold Tree.find at h
    split at h
    · rename_i e; subst e; cases h; exact h1
    · split at h
      · exact Tree.All.ok h2 t ti h
      · exact Tree.All.ok h3 t ti h

section
variable {P : Program} {t : Nat} {ti : TI}
theorem TIok.size (h : TIok P t ti) (w : World) : (sizeOf t).run P w = .ok ti.size w := by
  obtain ⟨i, d, z, h1, h2, h3, h4, h5, h6, h7, _⟩ := h
  simp [sizeOf, run_typeInfo' h1, h3]
theorem TIok.zeroV (h : TIok P t ti) : ∃ z, (∀ w, (zeroValue t).run P w = .ok z w) ∧ DenL [] ti.zero z.cells.toList := by
  obtain ⟨i, d, z, h1, h2, h3, h4, h5, h6, h7, _⟩ := h
  exact ⟨z, fun w => by simp [zeroValue, run_typeInfo' h1, h5], h6⟩
theorem TIok.under (h : TIok P t ti) : ∃ d, (∀ w, (underlying t).run P w = .ok d w) ∧ kindOk ti.kind d := by
  obtain ⟨i, d, z, h1, h2, h3, h4, h5, h6, h7, _⟩ := h
  exact ⟨d, fun w => run_underlying' h2 w, h7⟩
theorem TIok.isAgg (h : TIok P t ti) (w : World) : (isAgg t).run P w = .ok (isAggK ti.kind) w := by
  obtain ⟨d, h1, h2⟩ := h.under
  unfold Go.isAgg
  rw [Sem.run_bind, h1 w, Result.andThen_ok]
  cases hk : ti.kind <;> simp only [hk, kindOk] at h2
  case struct fs => obtain ⟨arr, rfl, _⟩ := h2; rfl
  case iface => obtain ⟨ms, rfl⟩ := h2; rfl
  case func => obtain ⟨_, _, _, rfl⟩ := h2; rfl
  case other => obtain ⟨g1, g2⟩ := h2; cases d <;> first | rfl | exact absurd rfl (g1 _) | exact absurd rfl (g2 _ _)
  all_goals subst h2; rfl
end

theorem DenL.weak {ρ : Rho} {l : List SV} {cs : List Value} (h : DenL [] l cs) : DenL ρ l cs := h.mono fun x r h => by simp at h

/-! ### What an operation does: a value, new resources, the world kept -/
/-- What it touches, told beforehand. -/
inductive SEff where
  | pure
  | rd (y : Nat) (o : Off) (n : Nat)
  | wr (y : Nat) (o : Off) (n : Nat)
  | new
  | qc
  | other
def BOk (ρ : Rho) (N : Nat) : SEff → Beh → Prop
  | .pure, B => ∃ c, B = Beh.pure c
  | .rd y o n, B => ∃ b o0 cs u, ρ[y]? = some (some (b, o0)) ∧ cs.length = n ∧ B = rdB b (o0 + o.val) cs u
  | .wr y o n, B => ∃ b vs T, ρ[y]? = some (some (b, 0)) ∧ vs.length = n ∧ B = wrB b o.val vs T
  | .new, B => ∃ o mk, B = newB N o mk
  | .qc, B => ∃ w u, B = qcB w u
  | .other, _ => True
def Runs (P : Program) (s : Sem Next) (ρ : Rho) (w : World) (q : Bool) (e : SEff) (K : SV → List Blk → Prop) : Prop :=
  ∃ B, (∀ x, B.ok x → (∃ v x', B.rel x v x' ∧ s.run P x = .ok (.value v) x') ∨ (∃ x', B.rel x undef x' ∧ s.run P x = .ok .skip x')) ∧ B.Inv ∧ B.ok w ∧ BOk ρ w.heap.size e B ∧
    ∀ c w', B.rel w c w' → ∃ ρ' v hp', Ext ρ ρ' ∧ Den ρ' v c ∧ HSat ρ' hp' w' ∧ Kept w w' ∧ (q = true → w' = w) ∧ K v hp'

theorem Runs.det {P : Program} {s : Sem Next} {ρ : Rho} {w : World} {q : Bool} {e : SEff} {K : SV → List Blk → Prop} {ok : World → Prop} {g : World → World} {val : World → Value} {ρ' : Rho} {v : SV} {hp' : List Blk}
    (h1 : ∀ x, ok x → s.run P x = .ok (.value (val x)) (g x) ∨ (s.run P x = .ok .skip (g x) ∧ val x = undef)) (h2 : (Beh.det ok g val).Inv) (h3 : ok w) (h4 : BOk ρ w.heap.size e (Beh.det ok g val))
    (h5 : Ext ρ ρ') (h6 : Den ρ' v (val w)) (h7 : HSat ρ' hp' (g w)) (h8 : Kept w (g w)) (h9 : q = true → g w = w) (hK : K v hp') : Runs P s ρ w q e K := by
  refine ⟨Beh.det ok g val, fun x hx => ?_, h2, h3, h4, ?_⟩
  · rcases h1 x hx with h | ⟨h, hv⟩
    · exact .inl ⟨_, _, ⟨rfl, rfl⟩, h⟩
    · exact .inr ⟨_, ⟨hv.symm, rfl⟩, h⟩
  · rintro c w' ⟨rfl, rfl⟩
    exact ⟨ρ', v, hp', h5, h6, h7, h8, h9, hK⟩

theorem Runs.pure {P : Program} {s : Sem Next} {ρ : Rho} {w : World} {q : Bool} {K : SV → List Blk → Prop} {hp : List Blk} {v : SV} {c : Value}
    (h : HSat ρ hp w) (hr : ∀ x, s.run P x = .ok (.value c) x) (hv : Den ρ v c) (hK : K v hp) : Runs P s ρ w q .pure K :=
  Runs.det (ok := fun _ => True) (g := id) (val := fun _ => c) (fun x _ => .inl (hr x)) (Beh.pure_inv c) trivial ⟨c, rfl⟩ (Ext.refl _) hv h (Kept.refl _) (fun _ => rfl) hK

/-! ### Loads -/
def loadS (T : Tree) (t : Nat) (hp : List Blk) (y : Nat) (o : Off) (K : SV → Prop) : Prop :=
  match T.find t with
  | none => False
  | some ti => match hp[y]? with
    | none => False
    | some k => match blkCells k with
      | none => False
      | some l => if isAggK ti.kind = true then cutOff l o ti.size (fun l' => K (.agg l')) else getOff l o K

theorem run_loadCells_of {P : Program} {w : World} {b o : Nat} {cs : List Value} (h : ∀ (j : Nat) (c : Value), cs[j]? = some c → w.cell? ⟨b, o + j, none⟩ = some c) :
    (loadCells ⟨b, o, none⟩ cs.length).run P w = .ok cs.toArray w :=
  run_loadCells_list w ⟨b, o, none⟩ cs fun j v hv => by rw [addr_add]; exact h j v hv

def loadN (T : Tree) (t : Nat) : Nat :=
  match T.find t with
  | some ti => if isAggK ti.kind = true then ti.size else 1
  | none => 0
theorem loadS_all {P : Program} {T : Tree} (hT : TOk P T) {t : Nat} {ρ : Rho} {hp : List Blk} {w : World} (h : HSat ρ hp w) {y : Nat} {o : Off} {K : SV → Prop} {c : Value}
    (hp' : Den ρ (.p y o) c) (hK : loadS T t hp y o K) : ∃ b o0 cs v u, ρ[y]? = some (some (b, o0)) ∧ cs.length = loadN T t ∧ (rdB b (o0 + o.val) cs u).ok w ∧
      (∀ x, (rdB b (o0 + o.val) cs u).ok x → (Instr.loadAt t c).run P x = .ok u x) ∧ Den ρ v u ∧ K v := by
  unfold loadS at hK
  split at hK
  · exact hK.elim
  · rename_i ti hti
    have ok := hT t ti hti
    split at hK
    · exact hK.elim
    · rename_i k hk
      split at hK
      · exact hK.elim
      · rename_i l hl
        cases hp' with
        | p b o0 hx hc =>
          subst hc
          split at hK
          · rename_i ha
            obtain ⟨l', cs, e1, e2, e3, e4⟩ := h.loadN hx hk hl hK
            refine ⟨b, o0, cs, .agg l', .agg cs.toArray, hx, by simp [Vex.loadN, hti, ha, e1], e2, ?_, .agg cs rfl e3, e4⟩
            intro x hx
            unfold Instr.loadAt Instr.sureAddr loadVar
            simp only [Sem.run_bind, Sem.run_pure, Result.andThen_ok, ok.isAgg x, ha]
            simp only [if_true, Sem.run_bind, ok.size x, Result.andThen_ok]
            rw [← e1, run_loadCells_of hx]
            rfl
          · rename_i ha
            obtain ⟨v, u, e1, e2, e3, e4⟩ := h.load1 hx hk hl hK
            refine ⟨b, o0, [u], v, u, hx, by simp [Vex.loadN, hti, ha], ?_, ?_, e3, e4⟩
            · intro j c hc
              cases j with
              | zero => simp at hc; subst hc; exact e1
              | succ j => simp at hc
            · intro x hx
              have e1 := hx 0 u rfl
              unfold Instr.loadAt Instr.sureAddr loadVar
              simp only [Sem.run_bind, Sem.run_pure, Result.andThen_ok, ok.isAgg x]
              simp only [Nat.add_zero] at e1
              simp only [ha, Bool.false_eq_true, if_false, run_load, e1]
theorem loadS_sound {P : Program} {T : Tree} (hT : TOk P T) {t : Nat} {ρ : Rho} {hp : List Blk} {w : World} (h : HSat ρ hp w) {y : Nat} {o : Off} {K : SV → Prop} {c : Value}
    (hp' : Den ρ (.p y o) c) (hK : loadS T t hp y o K) : ∃ v u, (Instr.loadAt t c).run P w = .ok u w ∧ Den ρ v u ∧ K v := by
  obtain ⟨b, o0, cs, v, u, _, _, h1, h2, h3, h4⟩ := loadS_all hT h hp' hK
  exact ⟨v, u, h2 w h1, h3, h4⟩

/-! ### Sizes of values; new blocks; stores -/
def sizeL : List SV → Option Nat
  | [] => some 0
  | v :: r => match sizeS v with
    | some a => match sizeL r with
      | some b => some (a + b)
      | none => none
    | none => none
theorem sizeL_len {ρ : Rho} : ∀ {l : List SV} {cs : List Value} {n : Nat}, DenL ρ l cs → sizeL l = some n → cs.length = n
  | [], cs, n, h, hn => by rw [h.of_nil]; simpa [sizeL] using hn
  | v :: r, cs, n, h, hn => by
    obtain ⟨c1, c2, rfl, h1, h2⟩ := h.of_cons
    unfold sizeL at hn
    split at hn
    · rename_i a ha
      split at hn
      · rename_i b hb
        cases hn
        rw [List.length_append, sizeS_len h1 ha, sizeL_len h2 hb]
      · cases hn
    · cases hn

/-- The cells of a value. -/
def cellsV : SV → Option (List SV)
  | .agg l => some l
  | .raw v => match v with
    | .pointer _ => some [.raw v]
    | _ => none
  | .tup _ | .ints .. | .rows .. | .junk .. => none
  | v => some [v]

theorem cellsV_sound {ρ : Rho} {v : SV} {l : List SV} {c : Value} (h : cellsV v = some l) (hv : Den ρ v c) : DenL ρ l c.cells.toList := by
  have one : ∀ (hs : oneC c = true), l = [v] → DenL ρ l c.cells.toList := by
    intro hs e
    subst e
    rw [den_cells_one hv hs]
    exact .cons [c] [] (by simp) (.one c rfl hs hv) (.nil rfl)
  cases v <;> simp only [cellsV, Option.some.injEq, reduceCtorEq] at h
  case agg l' =>
    subst h
    cases hv with | agg vs hc hl => subst hc; simpa [Value.cells] using hl
  case raw u =>
    cases u <;> simp only [Option.some.injEq, reduceCtorEq] at h
    exact one (by cases hv with | raw h => subst h; rfl) h.symm
  case i => exact one (by cases hv with | i h => subst h; rfl) h.symm
  case b => exact one (by cases hv with | b h => subst h; rfl) h.symm
  case str => exact one (by cases hv with | str h => subst h; rfl) h.symm
  case p => exact one (by cases hv with | p _ _ _ h => subst h; rfl) h.symm
  case nilp => exact one (by cases hv with | nilp h => subst h; rfl) h.symm
  case slc => exact one (by cases hv with | slc _ _ _ h => subst h; rfl) h.symm
  case slr => exact one (by cases hv with | slr _ _ _ h => subst h; rfl) h.symm
  case nilslc => exact one (by cases hv with | nilslc h => subst h; rfl) h.symm
  case fn => exact one (by cases hv with | fn _ _ h _ _ => subst h; rfl) h.symm
  case nilfn => exact one (by cases hv with | nilfn h => subst h; rfl) h.symm
  case ifc => exact one (by cases hv with | ifc _ h _ => subst h; rfl) h.symm
  case nilifc => exact one (by cases hv with | nilifc h => subst h; rfl) h.symm
  case map => exact one (by cases hv with | map _ _ h => subst h; rfl) h.symm
  case nilmap => exact one (by cases hv with | nilmap h => subst h; rfl) h.symm

theorem HSat.newCells {ρ : Rho} {hp : List Blk} {w : World} (h : HSat ρ hp w) {l : List SV} {cs : List Value} (T : TypeId) (hd : DenL ρ l cs) :
    HSat (ρ ++ [some (w.heap.size, 0)]) (hp ++ [.cells T l]) (w.alloc (.cells cs.toArray T)) :=
  h.new (o := .cells cs.toArray T) rfl ⟨cs, hd.mono (Ext.push _ _), .inr ⟨w.heap.size, rfl, rfl, by show (w.heap.push _)[w.heap.size]? = _; simp⟩⟩

theorem HSat.len {ρ : Rho} {hp : List Blk} {w : World} (h : HSat ρ hp w) : hp.length = ρ.length := let ⟨_, h⟩ := h; h.lenh

/-- The pointer to a new resource. -/
theorem den_new {ρ : Rho} {hp : List Blk} {w : World} (h : HSat ρ hp w) : Den (ρ ++ [some (w.heap.size, 0)]) (.p hp.length (.at 0)) (.pointer (some ⟨w.heap.size, 0, none⟩)) :=
  .p w.heap.size 0 (by rw [h.len]; simp) rfl

theorem Runs.new {P : Program} {s : Sem Next} {ρ : Rho} {w : World} {K : SV → List Blk → Prop} {hp : List Blk} {l : List SV} {cs : List Value} {T : TypeId}
    (h : HSat ρ hp w) (hd : DenL ρ l cs) (hr : ∀ x, s.run P x = .ok (.value (.pointer (some ⟨x.heap.size, 0, none⟩))) (x.alloc (.cells cs.toArray T)))
    (hK : K (.p hp.length (.at 0)) (hp ++ [.cells T l])) : Runs P s ρ w false .new K :=
  Runs.det (fun x _ => .inl (hr x)) (newB_inv w.heap.size (.cells cs.toArray T) (fun n => .pointer (some ⟨n, 0, none⟩))) (Nat.le_refl _) ⟨.cells cs.toArray T, fun n => .pointer (some ⟨n, 0, none⟩), rfl⟩ (Ext.push _ _) (den_new h) (h.newCells T hd) (Kept.alloc _ _) (by simp) hK

def allocS (T : Tree) (t : Nat) (hp : List Blk) (K : SV → List Blk → Prop) : Prop :=
  match T.find t with
  | none => False
  | some ti => K (.p hp.length (.at 0)) (hp ++ [.cells t ti.zero])

/-- 'execOp' of an operation that yields a value. -/
def valS (s : Sem Value) : Sem Next := do pure (.value (← s))
theorem run_valS {P : Program} {s : Sem Value} {w w' : World} {v : Value} (h : s.run P w = .ok v w') : (valS s).run P w = .ok (.value v) w' := by
  simp [valS, h]
def unitS (s : Sem Unit) : Sem Next := do s; pure .skip
theorem run_unitS {P : Program} {s : Sem Unit} {w w' : World} (h : s.run P w = .ok () w') : (unitS s).run P w = .ok .skip w' := by
  simp [unitS, h]

theorem allocS_sound {P : Program} {T : Tree} (hT : TOk P T) {t : Nat} {ρ : Rho} {hp : List Blk} {w : World} (h : HSat ρ hp w) {K : SV → List Blk → Prop}
    (hK : allocS T t hp K) : Runs P (valS (Instr.alloc t true (.tuple #[]))) ρ w false .new K := by
  unfold allocS at hK
  split at hK
  · exact hK.elim
  · rename_i ti hti
    obtain ⟨z, h1, h2⟩ := (hT t ti hti).zeroV
    refine Runs.new h h2.weak (fun x => run_valS ?_) hK
    simp [Instr.alloc, h1 x, newVar, newRow]

def boxS (t : Nat) (v : SV) (hp : List Blk) (K : SV → List Blk → Prop) : Prop :=
  match cellsV v with
  | none => False
  | some l => K (.p hp.length (.at 0)) (hp ++ [.cells t l])
theorem boxS_sound {P : Program} {t : Nat} {ρ : Rho} {hp : List Blk} {w : World} (h : HSat ρ hp w) {v : SV} {c : Value} (hv : Den ρ v c) {K : SV → List Blk → Prop}
    (hK : boxS t v hp K) : Runs P (valS (Instr.box t c)) ρ w false .new K := by
  unfold boxS at hK
  split at hK
  · exact hK.elim
  · rename_i l hl
    refine Runs.new h (cellsV_sound hl hv) (fun x => run_valS ?_) hK
    simp [Instr.box, newVar, newRow]

def storeS (T : Tree) (t : Nat) (hp : List Blk) (y : Nat) (o : Off) (v : SV) (K : List Blk → Prop) : Prop :=
  match T.find t with
  | none => False
  | some ti => match cellsV v with
    | none => False
    | some l => if sizeL l = some ti.size then (match hp[y]? with
        | some (.cells T' l') => storeL l' o ti.size v fun l'' => K (hp.set y (.cells T' l''))
        | _ => False) else False
def storeN (T : Tree) (t : Nat) : Nat :=
  match T.find t with
  | some ti => ti.size
  | none => 0
theorem storeS_sound {P : Program} {T : Tree} (hT : TOk P T) {t : Nat} {ρ : Rho} {hp : List Blk} {w : World} (h : HSat ρ hp w) {y : Nat} {o : Off} {v : SV} {c d : Value} {K : SV → List Blk → Prop}
    (hp' : Den ρ (.p y o) c) (hv : Den ρ v d) (hK : storeS T t hp y o v (K (.raw undef))) : Runs P (unitS (Instr.storeAt t c d)) ρ w false (.wr y o (storeN T t)) K := by
  unfold storeS at hK
  split at hK
  · exact hK.elim
  · rename_i ti hti
    have ok := hT t ti hti
    split at hK
    · exact hK.elim
    · rename_i l hl
      split at hK
      · rename_i hsz
        have hlen := sizeL_len (cellsV_sound hl hv) hsz
        split at hK
        · rename_i T' l' hk
          cases hp' with
          | p b o0 hx hc =>
            subst hc
            have hlen' : d.cells.size = ti.size := by simpa using hlen
            obtain ⟨l2, cs, rfl, e1, e2, e3, e4, e5⟩ := h.storeL hx hk hv hlen' hK
            refine Runs.det (v := .raw undef) ?_ (wrB_inv b o.val d.cells.toList T') ⟨cs, e1, e2⟩ ⟨b, _, T', hx, by simp [storeN, hti, hlen'], rfl⟩ (Ext.refl _) (.raw rfl) e4 ?_ (by simp) e5
            · rintro x ⟨cs', f1, f2⟩
              refine .inr ⟨run_unitS ?_, rfl⟩
              unfold Instr.storeAt Instr.sureAddr storeVar
              simp only [Sem.run_bind, Sem.run_pure, Result.andThen_ok, ok.size x, hlen', ne_eq, not_true_eq_false, if_false, Nat.zero_add]
              exact run_stored f1 f2 e3
            · show Kept w (stored b o.val d.cells.toList w)
              unfold stored; rw [e1]; exact Kept.putB _ _ _
        · exact hK.elim
      · exact hK.elim

/-! ### Addresses -/
def fieldAddrS (T : Tree) (s : Nat) (v : SV) (f : Nat) (K : SV → Prop) : Prop :=
  match v with
  | .p y o => match T.find s with
    | some ti => match ti.kind with
      | .struct fs => match fs[f]? with
        | some (off, t) => match T.find t with
          | some tj => if tj.size = 0 then False else K (.p y (o.add off))
          | none => False
        | none => False
      | _ => False
    | none => False
  | _ => False
theorem fieldAddrS_sound {P : Program} {T : Tree} (hT : TOk P T) {s f : Nat} {ρ : Rho} {v : SV} {c : Value} {K : SV → Prop}
    (hv : Den ρ v c) (hK : fieldAddrS T s v f K) : ∃ v' u, (∀ w, (Instr.fieldAt s c f).run P w = .ok u w) ∧ Den ρ v' u ∧ K v' := by
  unfold fieldAddrS at hK
  split at hK
  · rename_i y o
    split at hK
    · rename_i ti hti
      obtain ⟨d, h1, h2⟩ := (hT s ti hti).under
      split at hK
      · rename_i fs hfs
        rw [hfs] at h2
        obtain ⟨arr, rfl, _, h3⟩ := h2
        split at hK
        · rename_i off t hf
          obtain ⟨fl, g1, g2, g3⟩ := h3 f off t hf
          split at hK
          · rename_i tj htj
            split at hK
            · exact hK.elim
            · rename_i hne
              cases hv with
              | p b o0 hx hc =>
                subst hc
                refine ⟨.p y (o.add off), .pointer (some ⟨b, o0 + (o.add off).val, none⟩), ?_, .p b o0 hx rfl, hK⟩
                intro w
                unfold Instr.fieldAt
                simp only [Sem.run_bind, h1 w, Result.andThen_ok, g1, Instr.sureAddr, Sem.run_pure]
                unfold fieldPlace
                simp only [Sem.run_bind, g3, (hT t tj htj).size w, Result.andThen_ok, hne, if_false, Sem.run_pure, g2, addr_add, Off.val_add, Nat.add_assoc]
          · exact hK.elim
        · exact hK.elim
      · exact hK.elim
    · exact hK.elim
  · exact hK.elim


/-- An index: its number, within its bound. -/
def idxS (n : S Int) (len : S Nat) (K : S Nat → Prop) : Prop :=
  match n with
  | .lit i => match len with
    | .lit m => if 0 ≤ i then (if i < m then K (.lit i.toNat) else False) else False
    | .ex m => inR i m ∧ K (.lit i.toNat)
  | .ex i => inR i len.val ∧ K (.ex (toN i))
theorem idxS_sound {n : S Int} {len : S Nat} {K : S Nat → Prop} (h : idxS n len K) : 0 ≤ n.val ∧ n.val < len.val ∧ ∃ j : S Nat, j.val = n.val.toNat ∧ K j := by
  unfold idxS at h
  split at h
  · split at h
    · split at h
      · split at h
        · exact ⟨‹_›, ‹_›, _, rfl, h⟩
        · exact h.elim
      · exact h.elim
    · obtain ⟨h1, h2⟩ := h; rw [inR_eq] at h1; exact ⟨h1.1, h1.2, _, rfl, h2⟩
  · obtain ⟨h1, h2⟩ := h; rw [inR_eq] at h1; exact ⟨h1.1, h1.2, _, by rw [toN_eq]; rfl, h2⟩

/-- The place of the element j behind a place. -/
def elemOff (o : Off) (j : S Nat) (w : Nat) (K : Off → Prop) : Prop :=
  match j with
  | .lit j => K (o.add (j * w))
  | .ex j => match o with
    | .at l => K (.row l j w 0)
    | .row l i wr c => AllN 0 fun q => j = q → K (.row l i wr (c + q * w))
theorem elemOff_sound {o : Off} {j : S Nat} {w : Nat} {K : Off → Prop} (h : elemOff o j w K) : ∃ o', o'.val = o.val + j.val * w ∧ K o' := by
  unfold elemOff at h
  split at h
  · exact ⟨_, Off.val_add _ _, h⟩
  · split at h
    · exact ⟨_, by simp [Off.val], h⟩
    · rw [AllN_eq] at h
      exact ⟨_, by simp [Off.val]; omega, h _ (Nat.zero_le _) rfl⟩

def sAddN (a b : S Nat) : S Nat :=
  match a with
  | .lit 0 => b
  | .lit a => match b with
    | .lit b => .lit (a + b)
    | .ex b => .ex (addN a b)
  | .ex a => .ex (addN a b.val)
theorem sAddN_val (a b : S Nat) : (sAddN a b).val = a.val + b.val := by
  unfold sAddN; split
  · simp
  · split <;> simp [addN_eq]
  · simp [addN_eq]

def indexAddrS (T : Tree) (t : Nat) (v ix : SV) (K : SV → Prop) : Prop :=
  match T.find t with
  | none => False
  | some ti => match ix with
    | .i _ n => match ti.kind with
      | .array len e => match T.find e with
        | none => False
        | some te => match v with
          | .p y o => idxS n (.lit len) fun j => elemOff o j te.size fun o' => K (.p y o')
          | _ => False
      | .slice e => match T.find e with
        | none => False
        | some te => match v with
          | .slc y l w o len cap => if w = te.size then idxS n len fun j => elemOff (.at l) (sAddN o j) w fun o' => K (.p y o') else False
          | .slr y b w len cap => if w = te.size then idxS n len fun j => elemOff b j w fun o' => K (.p y o') else False
          | _ => False
      | _ => False
    | _ => False

theorem indexAddrS_sound {P : Program} {T : Tree} (hT : TOk P T) {t : Nat} {ρ : Rho} {v ix : SV} {c d : Value} {K : SV → Prop}
    (hv : Den ρ v c) (hi : Den ρ ix d) (hK : indexAddrS T t v ix K) : ∃ v' u, (∀ w, (Instr.indexAt t c d).run P w = .ok u w) ∧ Den ρ v' u ∧ K v' := by
  unfold indexAddrS at hK
  split at hK
  · exact hK.elim
  · rename_i ti hti
    obtain ⟨dd, h1, h2⟩ := (hT t ti hti).under
    split at hK
    · rename_i k n
      cases hi with
      | i hi =>
      subst hi
      split at hK
      · rename_i len e hk
        rw [hk] at h2
        simp only [kindOk] at h2
        subst h2
        split at hK
        · exact hK.elim
        · rename_i te hte
          split at hK
          · rename_i y o
            obtain ⟨g1, g2, j, g3, g4⟩ := idxS_sound hK
            obtain ⟨o', g5, g6⟩ := elemOff_sound g4
            cases hv with
            | p b o0 hx hc =>
              subst hc
              refine ⟨.p y o', .pointer (some ⟨b, o0 + o'.val, none⟩), ?_, .p b o0 hx rfl, g6⟩
              intro w
              unfold Instr.indexAt
              simp only [S.val_lit] at g2
              simp only [asIntOf, Sem.run_bind, Sem.run_pure, Result.andThen_ok, h1 w, Instr.sureAddr, g1, g2, and_self, if_true, (hT e te hte).size w, addr_add]
              simp only [g5, g3, Nat.add_assoc]
          · exact hK.elim
      · rename_i e hk
        rw [hk] at h2
        simp only [kindOk] at h2
        subst h2
        split at hK
        · exact hK.elim
        · rename_i te hte
          split at hK
          · rename_i y l ws o len cap
            split at hK
            · rename_i hw
              obtain ⟨g1, g2, j, g3, g4⟩ := idxS_sound hK
              obtain ⟨o', g5, g6⟩ := elemOff_sound g4
              cases hv with
              | slc r hx hn hc =>
                subst hc
                cases r with
                | none => have := hn rfl; omega
                | some r' =>
                obtain ⟨b, o0⟩ := r'
                refine ⟨.p y o', .pointer (some ⟨b, o0 + o'.val, none⟩), ?_, .p b o0 hx rfl, g6⟩
                intro w
                unfold Instr.indexAt
                simp only [asIntOf, Sem.run_bind, Sem.run_pure, Result.andThen_ok, h1 w, Option.map_some, g1, g2, and_self, if_true, (hT e te hte).size w, addr_add]
                rw [g5, sAddN_val, g3, hw]
                simp only [Off.val, Nat.add_mul, Nat.add_assoc]
            · exact hK.elim
          · rename_i y bo ws len cap
            split at hK
            · rename_i hw
              obtain ⟨g1, g2, j, g3, g4⟩ := idxS_sound hK
              obtain ⟨o', g5, g6⟩ := elemOff_sound g4
              cases hv with
              | slr b o0 hx hc =>
                subst hc
                refine ⟨.p y o', .pointer (some ⟨b, o0 + o'.val, none⟩), ?_, .p b o0 hx rfl, g6⟩
                intro w
                unfold Instr.indexAt
                simp only [asIntOf, Sem.run_bind, Sem.run_pure, Result.andThen_ok, h1 w, g1, g2, and_self, if_true, (hT e te hte).size w, addr_add]
                rw [g5, g3, hw]
                simp only [Nat.add_assoc]
            · exact hK.elim
          · exact hK.elim
      · exact hK.elim
    · exact hK.elim
end
end Go.Vex
end

/-
  VEX, part 5: operations on values: arithmetic, comparisons, conversions, parts of structs, literals.
-/
section
namespace Go.Vex
noncomputable section

/-! ### Leaves -/

def sBin {β : Type} (g f : Int → Int → β) (a b : S Int) : S β :=
  match a with
  | .lit a => match b with
    | .lit b => .lit (g a b)
    | .ex b => .ex (f a b)
  | .ex a => .ex (f a b.val)
theorem sBin_val {β : Type} {g f : Int → Int → β} (h : ∀ a b, f a b = g a b) (a b : S Int) : (sBin g f a b).val = g a.val b.val := by
  unfold sBin; split
  · split <;> simp [h]
  · simp [h]
def sUn {α β : Type} (g f : α → β) (a : S α) : S β :=
  match a with
  | .lit a => .lit (g a)
  | .ex a => .ex (f a)
theorem sUn_val {α β : Type} {g f : α → β} (h : ∀ a, f a = g a) (a : S α) : (sUn g f a).val = g a.val := by
  unfold sUn; split <;> simp [h]
def sNot (a : S Bool) : S Bool := sUn (fun b => !b) notB a
theorem sNot_val (a : S Bool) : (sNot a).val = !a.val := sUn_val (fun a => by rw [notB_eq]) a
def sAnd (a b : S Bool) : S Bool :=
  match a with
  | .lit false => .lit false
  | .lit true => b
  | .ex a => .ex (andB a b.val)
theorem sAnd_val (a b : S Bool) : (sAnd a b).val = (a.val && b.val) := by
  unfold sAnd; split <;> simp [andB_eq]
def sEqB (a b : S Bool) : S Bool :=
  match a with
  | .lit a => match b with
    | .lit b => .lit (a == b)
    | .ex b => .ex (eqB a b)
  | .ex a => .ex (eqB a b.val)
theorem sEqB_val (a b : S Bool) : (sEqB a b).val = (a.val == b.val) := by
  unfold sEqB; split
  · split <;> simp [eqB_eq]
  · simp [eqB_eq]

/-- Arithmetic and comparisons of two numbers of one kind. -/
def arithS (op : BinOp) (k : IntKind) (a b : S Int) (K : SV → Prop) : Prop :=
  match op with
  | .add => K (.i k (sBin (fun a b => k.wrap (a + b)) (addI k) a b))
  | .sub => K (.i k (sBin (fun a b => k.wrap (a - b)) (subI k) a b))
  | .mul => K (.i k (sBin (fun a b => k.wrap (a * b)) (mulI k) a b))
  | .quo => match b with
    | .lit n => if n = 0 then False else K (.i k (sBin (fun a b => k.wrap (a.tdiv b)) (quoI k) a (.lit n)))
    | .ex n => neZ n ∧ K (.i k (.ex (quoI k a.val n)))
  | .rem => match b with
    | .lit n => if n = 0 then False else K (.i k (sBin (fun a b => a.tmod b) remI a (.lit n)))
    | .ex n => neZ n ∧ K (.i k (.ex (remI a.val n)))
  | .and => K (.i k (sBin (fun a b => k.wrap (BitVec.ofInt k.bits a &&& BitVec.ofInt k.bits b).toNat) (andI k) a b))
  | .or => K (.i k (sBin (fun a b => k.wrap (BitVec.ofInt k.bits a ||| BitVec.ofInt k.bits b).toNat) (orI k) a b))
  | .xor => K (.i k (sBin (fun a b => k.wrap (BitVec.ofInt k.bits a ^^^ BitVec.ofInt k.bits b).toNat) (xorI k) a b))
  | .andNot => K (.i k (sBin (fun a b => k.wrap (BitVec.ofInt k.bits a &&& ~~~ BitVec.ofInt k.bits b).toNat) (clrI k) a b))
  | .eql => K (.b (sBin (fun a b => a == b) eqI a b))
  | .neq => K (.b (sNot (sBin (fun a b => a == b) eqI a b)))
  | .lss => K (.b (sBin (fun a b => decide (a < b)) ltI a b))
  | .leq => K (.b (sBin (fun a b => decide (a ≤ b)) leI a b))
  | .gtr => K (.b (sBin (fun a b => decide (a < b)) ltI b a))
  | .geq => K (.b (sBin (fun a b => decide (a ≤ b)) leI b a))
  | _ => False

def shiftS (op : BinOp) (k : IntKind) (a b : S Int) (K : SV → Prop) : Prop :=
  match op with
  | .shl => match b with
    | .lit n => if 0 ≤ n then K (.i k (sBin (fun a n => k.wrap (a * 2 ^ min n.toNat k.bits)) (shlI k) a (.lit n))) else False
    | .ex n => geZ n ∧ K (.i k (.ex (shlI k a.val n)))
  | .shr => match b with
    | .lit n => if 0 ≤ n then K (.i k (sBin (fun a n => a.fdiv (2 ^ min n.toNat k.bits)) (shrI k) a (.lit n))) else False
    | .ex n => geZ n ∧ K (.i k (.ex (shrI k a.val n)))
  | _ => False

theorem arithS_sound {P : Program} {op : BinOp} {t : TypeId} {k : IntKind} {a b : S Int} {K : SV → Prop} {ρ : Rho} (h : arithS op k a b K) :
    ∃ v u, (∀ w, (binOp op t (.int k a.val) (.int k b.val)).run P w = .ok u w) ∧ Den ρ v u ∧ K v := by
  unfold arithS at h
  split at h
  case h_4 =>
    split at h
    · split at h
      · exact h.elim
      · rename_i hn; exact ⟨_, _, fun w => by simp [binOp, Op.intDiv, hn]; rfl, .i (by rw [sBin_val (fun a b => by rw [quoI_eq])]; rfl), h⟩
    · obtain ⟨h1, h2⟩ := h; rw [neZ_eq] at h1; exact ⟨_, _, fun w => by simp [binOp, Op.intDiv, h1]; rfl, .i (by rw [quoI_eq]; rfl), h2⟩
  case h_5 =>
    split at h
    · split at h
      · exact h.elim
      · rename_i hn; exact ⟨_, _, fun w => by simp [binOp, Op.intDiv, hn]; rfl, .i (by rw [sBin_val (fun a b => by rw [remI_eq])]; rfl), h⟩
    · obtain ⟨h1, h2⟩ := h; rw [neZ_eq] at h1; exact ⟨_, _, fun w => by simp [binOp, Op.intDiv, h1]; rfl, .i (by rw [remI_eq]; rfl), h2⟩
  case h_1 => exact ⟨_, _, fun w => by simp [binOp, Op.intArith]; rfl, .i (by rw [sBin_val (fun a b => by rw [addI_eq])]), h⟩
  case h_2 => exact ⟨_, _, fun w => by simp [binOp, Op.intArith]; rfl, .i (by rw [sBin_val (fun a b => by rw [subI_eq])]), h⟩
  case h_3 => exact ⟨_, _, fun w => by simp [binOp, Op.intArith]; rfl, .i (by rw [sBin_val (fun a b => by rw [mulI_eq])]), h⟩
  case h_6 => exact ⟨_, _, fun w => by simp [binOp, Op.intBits]; rfl, .i (by rw [sBin_val (fun a b => by rw [andI_eq])]; simp), h⟩
  case h_7 => exact ⟨_, _, fun w => by simp [binOp, Op.intBits]; rfl, .i (by rw [sBin_val (fun a b => by rw [orI_eq])]; simp), h⟩
  case h_8 => exact ⟨_, _, fun w => by simp [binOp, Op.intBits]; rfl, .i (by rw [sBin_val (fun a b => by rw [xorI_eq])]; simp), h⟩
  case h_9 => exact ⟨_, _, fun w => by simp [binOp, Op.intBits]; rfl, .i (by rw [sBin_val (fun a b => by rw [clrI_eq])]; simp), h⟩
  case h_10 => exact ⟨_, _, fun w => by simp [binOp, Op.intCmp]; rfl, .b (by rw [sBin_val (fun a b => by rw [eqI_eq])]), h⟩
  case h_11 => exact ⟨_, _, fun w => by simp [binOp, Op.intCmp]; rfl, .b (by rw [sNot_val, sBin_val (fun a b => by rw [eqI_eq])]; rfl), h⟩
  case h_12 => exact ⟨_, _, fun w => by simp [binOp, Op.intCmp]; rfl, .b (by rw [sBin_val (fun a b => by rw [ltI_eq])]), h⟩
  case h_13 => exact ⟨_, _, fun w => by simp [binOp, Op.intCmp]; rfl, .b (by rw [sBin_val (fun a b => by rw [leI_eq])]), h⟩
  case h_14 => exact ⟨_, _, fun w => by simp [binOp, Op.intCmp]; rfl, .b (by rw [sBin_val (fun a b => by rw [ltI_eq])]), h⟩
  case h_15 => exact ⟨_, _, fun w => by simp [binOp, Op.intCmp]; rfl, .b (by rw [sBin_val (fun a b => by rw [leI_eq])]), h⟩
  case h_16 => exact h.elim

theorem run_shl {P : Program} {t : TypeId} {k k' : IntKind} {x n : Int} (h : 0 ≤ n) (w : World) :
    (binOp .shl t (.int k x) (.int k' n)).run P w = .ok (.int k (k.wrap (x * 2 ^ min n.toNat k.bits))) w := by
  unfold binOp Op.shift; simp only; rw [if_neg (by omega)]; rfl
theorem run_shr {P : Program} {t : TypeId} {k k' : IntKind} {x n : Int} (h : 0 ≤ n) (w : World) :
    (binOp .shr t (.int k x) (.int k' n)).run P w = .ok (.int k (x.fdiv (2 ^ min n.toNat k.bits))) w := by
  unfold binOp Op.shift; simp only; rw [if_neg (by omega)]; rfl
theorem shiftS_sound {P : Program} {op : BinOp} {t : TypeId} {k k' : IntKind} {a b : S Int} {K : SV → Prop} {ρ : Rho} (h : shiftS op k a b K) :
    ∃ v u, (∀ w, (binOp op t (.int k a.val) (.int k' b.val)).run P w = .ok u w) ∧ Den ρ v u ∧ K v := by
  cases op <;> try exact (show False from h).elim
  case shl =>
    cases b with
    | lit n =>
      have h' : if 0 ≤ n then K (.i k (sBin (fun a n => k.wrap (a * 2 ^ min n.toNat k.bits)) (shlI k) a (.lit n))) else False := h
      split at h'
      · exact ⟨_, _, run_shl ‹_›, .i (by rw [sBin_val (fun a b => by rw [shlI_eq])]), h'⟩
      · exact h'.elim
    | ex n =>
      obtain ⟨h1, h2⟩ : geZ n ∧ K (.i k (.ex (shlI k a.val n))) := h
      rw [geZ_eq] at h1
      exact ⟨_, _, run_shl h1, .i (by rw [shlI_eq]; rfl), h2⟩
  case shr =>
    cases b with
    | lit n =>
      have h' : if 0 ≤ n then K (.i k (sBin (fun a n => a.fdiv (2 ^ min n.toNat k.bits)) (shrI k) a (.lit n))) else False := h
      split at h'
      · exact ⟨_, _, run_shr ‹_›, .i (by rw [sBin_val (fun a b => by rw [shrI_eq])]), h'⟩
      · exact h'.elim
    | ex n =>
      obtain ⟨h1, h2⟩ : geZ n ∧ K (.i k (.ex (shrI k a.val n))) := h
      rw [geZ_eq] at h1
      exact ⟨_, _, run_shr h1, .i (by rw [shrI_eq]; rfl), h2⟩

/-! ### '==' of other things -/
/-- Two things of which one is nil, or bools: do they read the same? -/
def eqK : TK → Bool → SV → SV → Option (S Bool)
  | .bool, _, .b a, .b b => some (sEqB a b)
  | .ptr _, _, .nilp, .nilp => some (.lit true)
  | .ptr _, _, .nilp, .p .. => some (.lit false)
  | .ptr _, _, .p .., .nilp => some (.lit false)
  | .iface, true, .nilifc, .nilifc => some (.lit true)
  | .iface, _, .nilifc, .ifc .. => some (.lit false)
  | .iface, _, .ifc .., .nilifc => some (.lit false)
  | .func, _, .nilfn, .nilfn => some (.lit true)
  | .func, _, .nilfn, .fn .. => some (.lit false)
  | .func, _, .fn .., .nilfn => some (.lit false)
  | .map .., _, .nilmap, .nilmap => some (.lit true)
  | .map .., _, .nilmap, .map _ => some (.lit false)
  | .map .., _, .map _, .nilmap => some (.lit false)
  | _, _, _, _ => none

def isConstO : Operand → Bool
  | .const _ => true
  | _ => false

theorem run_equal {P : Program} {t : TypeId} {d : TypeDesc} (h1 : ∀ w, (underlying t).run P w = .ok d w) (x y : Value) (w : World) (b : Bool)
    (h : ∀ w, ((match d, x, y with
      | .bool, .bool a, .bool b => pure (a == b)
      | .pointer _, .pointer none, .pointer b => pure b.isNone
      | .pointer _, .pointer (some _), .pointer none => pure false
      | .interface _, .nilIface, .nilIface => pure true
      | .interface _, .nilIface, .iface _ _ | .interface _, .iface _ _, .nilIface => pure false
      | .map _ _, .map none, .map b => pure b.isNone
      | .map _ _, .map _, .map none => pure false
      | .func _ _ _, .nilFunc, .nilFunc => pure true
      | .func _ _ _, .nilFunc, .func _ _ _ | .func _ _ _, .func _ _ _, .nilFunc => pure false
      | _, _, _ => stuck "") : Sem Bool).run P w = .ok b w) : (Op.equal t x y).run P w = .ok b w := by
  unfold Op.equal Op.maxDepth
  rw [show (10000 : Nat) = 9999 + 1 from rfl, Op.equalIn, Sem.run_bind, h1 w, Result.andThen_ok]
  have h' := h w
  clear h
  cases d <;> try (simp [stuck] at h'; done)
  case bool => cases x <;> try (simp [stuck] at h'; done)
               cases y <;> first | exact h' | (simp [stuck] at h'; done)
  case pointer e =>
    cases x <;> try (simp [stuck] at h'; done)
    rename_i a
    cases y <;> try (cases a <;> simp [stuck] at h'; done)
    rename_i b'
    cases a <;> cases b' <;> first | exact h' | (simp [stuck] at h'; done)
  case interface ms =>
    cases x <;> try (simp [stuck] at h'; done)
    all_goals cases y <;> first | exact h' | (simp [stuck] at h'; done)
  case map k e =>
    cases x <;> try (simp [stuck] at h'; done)
    rename_i a
    cases y <;> try (cases a <;> simp [stuck] at h'; done)
    rename_i b'
    cases a <;> cases b' <;> first | exact h' | (simp [stuck] at h'; done)
  case func a b c =>
    cases x <;> try (simp [stuck] at h'; done)
    all_goals cases y <;> first | exact h' | (simp [stuck] at h'; done)

theorem eqK_sound {P : Program} {k : TK} {t : Nat} {d : TypeDesc} {cn : Bool} {x y : SV} {b : S Bool} {ρ : Rho} {u v : Value}
    (h1 : ∀ w, (underlying t).run P w = .ok d w) (h2 : kindOk k d) (h : eqK k cn x y = some b)
    (hx : Den ρ x u) (hy : Den ρ y v) (w : World) : (Op.equal t u v).run P w = .ok b.val w := by
  unfold eqK at h
  split at h <;> simp only [Option.some.injEq, reduceCtorEq] at h <;> subst h <;> simp only [kindOk] at h2
  · subst h2; cases hx with | b hx => cases hy with | b hy => subst hx; subst hy; rw [sEqB_val]; exact run_equal h1 _ _ w _ (fun w => rfl)
  · subst h2; cases hx with | nilp hx => cases hy with | nilp hy => subst hx; subst hy; exact run_equal h1 _ _ w _ (fun w => rfl)
  · subst h2; cases hx with | nilp hx => cases hy with | p _ _ _ hy => subst hx; subst hy; exact run_equal h1 _ _ w _ (fun w => rfl)
  · subst h2; cases hx with | p _ _ _ hx => cases hy with | nilp hy => subst hx; subst hy; exact run_equal h1 _ _ w _ (fun w => rfl)
  · obtain ⟨ms, rfl⟩ := h2; cases hx with | nilifc hx => cases hy with | nilifc hy => subst hx; subst hy; exact run_equal h1 _ _ w _ (fun w => rfl)
  · obtain ⟨ms, rfl⟩ := h2; cases hx with | nilifc hx => cases hy with | ifc _ hy => subst hx; subst hy; exact run_equal h1 _ _ w _ (fun w => rfl)
  · obtain ⟨ms, rfl⟩ := h2; cases hx with | ifc _ hx => cases hy with | nilifc hy => subst hx; subst hy; exact run_equal h1 _ _ w _ (fun w => rfl)
  · obtain ⟨_, _, _, rfl⟩ := h2; cases hx with | nilfn hx => cases hy with | nilfn hy => subst hx; subst hy; exact run_equal h1 _ _ w _ (fun w => rfl)
  · obtain ⟨_, _, _, rfl⟩ := h2; cases hx with | nilfn hx => cases hy with | fn _ _ hy => subst hx; subst hy; exact run_equal h1 _ _ w _ (fun w => rfl)
  · obtain ⟨_, _, _, rfl⟩ := h2; cases hx with | fn _ _ hx => cases hy with | nilfn hy => subst hx; subst hy; exact run_equal h1 _ _ w _ (fun w => rfl)
  · subst h2; cases hx with | nilmap hx => cases hy with | nilmap hy => subst hx; subst hy; exact run_equal h1 _ _ w _ (fun w => rfl)
  · subst h2; cases hx with | nilmap hx => cases hy with | map _ _ hy => subst hx; subst hy; exact run_equal h1 _ _ w _ (fun w => rfl)
  · subst h2; cases hx with | map _ _ hx => cases hy with | nilmap hy => subst hx; subst hy; exact run_equal h1 _ _ w _ (fun w => rfl)

/-- One nil is written out in the text. -/
def constNil (xo yo : Operand) : Bool := isConstO xo || isConstO yo

theorem eqGuard_run {P : Program} {k : TK} {t : Nat} {cn : Bool} {x y : SV} {b : S Bool} {ρ : Rho} {u v : Value} {op : BinOp} {xo yo : Operand}
    (h : eqK k cn x y = some b) (hcn : cn = constNil xo yo) (hx : Den ρ x u) (hy : Den ρ y v) (w : World) : (eqGuard op t xo yo u v).run P w = .ok () w := by
  unfold eqK at h
  unfold eqGuard
  split at h <;> try (cases h; done)
  · cases hx with | b hx => cases hy with | b hy => subst hx; subst hy; cases op <;> rfl
  · cases hx with | nilp hx => cases hy with | nilp hy => subst hx; subst hy; cases op <;> rfl
  · cases hx with | nilp hx => cases hy with | p _ _ _ hy => subst hx; subst hy; cases op <;> rfl
  · cases hx with | p _ _ _ hx => cases hy with | nilp hy => subst hx; subst hy; cases op <;> rfl
  · cases hx with
    | nilifc hx => cases hy with
      | nilifc hy =>
        subst hx; subst hy
        unfold constNil at hcn
        cases xo <;> cases yo <;> first | (simp [isConstO] at hcn; done) | (cases op <;> rfl)
  · cases hx with | nilifc hx => cases hy with | ifc _ hy => subst hx; subst hy; cases op <;> rfl
  · cases hx with | ifc _ hx => cases hy with | nilifc hy => subst hx; subst hy; cases op <;> rfl
  · cases hx with | nilfn hx => cases hy with | nilfn hy => subst hx; subst hy; cases op <;> rfl
  · cases hx with | nilfn hx => cases hy with | fn _ _ hy => subst hx; subst hy; cases op <;> rfl
  · cases hx with | fn _ _ hx => cases hy with | nilfn hy => subst hx; subst hy; cases op <;> rfl
  · cases hx with | nilmap hx => cases hy with | nilmap hy => subst hx; subst hy; cases op <;> rfl
  · cases hx with | nilmap hx => cases hy with | map _ _ hy => subst hx; subst hy; cases op <;> rfl
  · cases hx with | map _ _ hx => cases hy with | nilmap hy => subst hx; subst hy; cases op <;> rfl

theorem binOp_eql {P : Program} {k : TK} {t : Nat} {cn : Bool} {x y : SV} {b : S Bool} {ρ : Rho} {u v : Value}
    (h : eqK k cn x y = some b) (hx : Den ρ x u) (hy : Den ρ y v) {w : World} (he : (Op.equal t u v).run P w = .ok b.val w) :
    (binOp .eql t u v).run P w = .ok (.bool b.val) w ∧ (binOp .neq t u v).run P w = .ok (.bool !b.val) w := by
  have key : ∀ (h1 : binOp .eql t u v = (do pure (.bool (← Op.equal t u v)))) (h2 : binOp .neq t u v = (do pure (.bool (!(← Op.equal t u v))))),
      (binOp .eql t u v).run P w = .ok (.bool b.val) w ∧ (binOp .neq t u v).run P w = .ok (.bool !b.val) w := by
    intro h1 h2; rw [h1, h2]; simp [he]
  unfold eqK at h
  split at h <;> try (cases h; done)
  · cases hx with | b hx => cases hy with | b hy => subst hx; subst hy; exact key rfl rfl
  · cases hx with | nilp hx => cases hy with | nilp hy => subst hx; subst hy; exact key rfl rfl
  · cases hx with | nilp hx => cases hy with | p _ _ _ hy => subst hx; subst hy; exact key rfl rfl
  · cases hx with | p _ _ _ hx => cases hy with | nilp hy => subst hx; subst hy; exact key rfl rfl
  · cases hx with | nilifc hx => cases hy with | nilifc hy => subst hx; subst hy; exact key rfl rfl
  · cases hx with | nilifc hx => cases hy with | ifc _ hy => subst hx; subst hy; exact key rfl rfl
  · cases hx with | ifc _ hx => cases hy with | nilifc hy => subst hx; subst hy; exact key rfl rfl
  · cases hx with | nilfn hx => cases hy with | nilfn hy => subst hx; subst hy; exact key rfl rfl
  · cases hx with | nilfn hx => cases hy with | fn _ _ hy => subst hx; subst hy; exact key rfl rfl
  · cases hx with | fn _ _ hx => cases hy with | nilfn hy => subst hx; subst hy; exact key rfl rfl
  · cases hx with | nilmap hx => cases hy with | nilmap hy => subst hx; subst hy; exact key rfl rfl
  · cases hx with | nilmap hx => cases hy with | map _ _ hy => subst hx; subst hy; exact key rfl rfl
  · cases hx with | map _ _ hx => cases hy with | nilmap hy => subst hx; subst hy; exact key rfl rfl

/-! ### '==' of structs and arrays -/
def sAndB (a b : S Bool) : S Bool :=
  match a with
  | .lit t => match t with
    | true => b
    | false => .lit false
  | .ex a => match b with
    | .lit t => match t with
      | true => .ex a
      | false => .lit false
    | .ex b => .ex (andB a b)
theorem sAndB_val (a b : S Bool) : (sAndB a b).val = (a.val && b.val) := by
  unfold sAndB; split
  · split <;> simp
  · split
    · split <;> simp
    · simp [andB_eq]

def expI (k : IntKind) (zs : List Int) : Nat → Nat → List SV
  | 0, _ => []
  | n + 1, j => .i k (.ex (gi zs j)) :: expI k zs n (j + 1)
theorem expI_sound {ρ : Rho} {k : IntKind} {zs : List Int} : ∀ (n j : Nat), j + n = zs.length → DenL ρ (expI k zs n j) ((zs.drop j).map (Value.int k))
  | 0, j, h => by rw [List.drop_of_length_le (by omega)]; exact .nil rfl
  | n + 1, j, h => by
    have hj : j < zs.length := by omega
    rw [List.drop_eq_getElem_cons hj, List.map_cons]
    refine .cons [_] _ rfl (.one _ rfl rfl (.i ?_)) (expI_sound n (j + 1) (by omega))
    rw [S.val_ex, gi_eq, List.getD_eq_getElem?_getD, List.getElem?_eq_getElem hj]; rfl

def kTake (k : IntKind) : Nat → List FK → Option (List FK)
  | 0, ks => some ks
  | n + 1, q :: ks => match q with
    | some k' => if k' = k then kTake k n ks else none
    | none => none
  | _ + 1, [] => none
theorem kTake_sound {k : IntKind} : ∀ {n : Nat} {ks ms : List FK}, kTake k n ks = some ms → ks = List.replicate n (some k) ++ ms
  | 0, ks, ms, h => by cases h; rfl
  | n + 1, q :: ks, ms, h => by
    unfold kTake at h
    split at h
    · split at h
      · rename_i e; subst e; rw [kTake_sound h]; rfl
      · cases h
    · cases h
  | n + 1, [], ms, h => by simp [kTake] at h

def eqLS : Nat → List FK → List SV → List SV → Option (S Bool)
  | 0, _, _, _ => none
  | f + 1, ks, l, m => match l with
    | [] => match m with
      | [] => match ks with
        | [] => some (.lit true)
        | _ :: _ => none
      | _ :: _ => none
    | .i k a :: r => match m with
      | .i k' b :: s => (match ks with
        | q :: ks => (match q with
          | some q => if k = q then (if k' = q then (match eqLS f ks r s with
            | some t => some (sAndB (sBin (fun a b => a == b) eqI a b) t)
            | none => none) else none) else none
          | none => none)
        | [] => none)
      | .ints k' (.lit n) ys :: s => eqLS f ks l (expI k' ys n 0 ++ s)
      | _ => none
    | .b a :: r => match m with
      | .b b :: s => (match ks with
        | q :: ks => (match q with
          | none => (match eqLS f ks r s with
            | some t => some (sAndB (sEqB a b) t)
            | none => none)
          | some _ => none)
        | [] => none)
      | _ => none
    | .ints k (.lit n) zs :: r => match m with
      | .ints k' (.lit n') ys :: s => if n = n' then (if k = k' then (match kTake k n ks with
          | some ks => match eqLS f ks r s with
            | some t => some (sAndB (.ex (eqL zs ys)) t)
            | none => none
          | none => none) else none) else eqLS f ks (expI k zs n 0 ++ r) m
      | .i .. :: _ => eqLS f ks (expI k zs n 0 ++ r) m
      | _ => none
    | _ => none

theorem fits_rep {k : IntKind} : ∀ (zs : List Int), fitsL (List.replicate zs.length (some k)) (zs.map (Value.int k)) = true
  | [] => rfl
  | z :: zs => by simp [List.replicate_succ, fitsL, fits1, fits_rep zs]
theorem fitsL_app : ∀ {ks ms : List FK} {cs ds : List Value}, fitsL ks cs = true → fitsL ms ds = true → fitsL (ks ++ ms) (cs ++ ds) = true
  | [], ms, [], ds, _, h => h
  | k :: ks, ms, c :: cs, ds, h, h' => by
    simp only [fitsL, Bool.and_eq_true, List.cons_append] at h ⊢
    exact ⟨h.1, fitsL_app h.2 h'⟩
  | [], _, _ :: _, _, h, _ => by simp [fitsL] at h
  | _ :: _, _, [], _, h, _ => by simp [fitsL] at h
theorem eqCs_ints {k : IntKind} : ∀ (zs ys : List Int), zs.length = ys.length → eqCs (zs.map (Value.int k)) (ys.map (Value.int k)) = (zs == ys)
  | [], [], _ => rfl
  | z :: zs, y :: ys, h => by
    simp only [List.map_cons, eqCs, eqC]
    rw [eqCs_ints zs ys (by simpa using h)]; rfl
  | [], _ :: _, h => by simp at h
  | _ :: _, [], h => by simp at h

theorem eqLS_sound {ρ : Rho} : ∀ (f : Nat) (ks : List FK) (l m : List SV) (xs ys : List Value) (b : S Bool), eqLS f ks l m = some b → DenL ρ l xs → DenL ρ m ys →
    fitsL ks xs = true ∧ fitsL ks ys = true ∧ eqCs xs ys = b.val := by
  intro f
  induction f with
  | zero => intro ks l m xs ys b h; simp [eqLS] at h
  | succ f ih =>
    intro ks l m xs ys b h hx hy
    unfold eqLS at h
    split at h
    · split at h
      · split at h
        · cases h; rw [hx.of_nil, hy.of_nil]; exact ⟨rfl, rfl, rfl⟩
        · cases h
      · cases h
    · rename_i k a r
      split at h
      · rename_i k' c s
        split at h
        · rename_i q ks
          split at h
          · rename_i q
            split at h
            · rename_i e1
              split at h
              · rename_i e2
                split at h
                · rename_i t ht
                  cases h
                  obtain ⟨x1, x2, rfl, hx1, hx2⟩ := hx.of_cons
                  obtain ⟨y1, y2, rfl, hy1, hy2⟩ := hy.of_cons
                  obtain ⟨u, rfl, _, hu⟩ := hx1.single rfl
                  obtain ⟨v, rfl, _, hv⟩ := hy1.single rfl
                  cases hu with
                  | i hu => cases hv with
                    | i hv =>
                      subst hu; subst hv; subst e1; subst e2
                      obtain ⟨g1, g2, g3⟩ := ih _ _ _ _ _ _ ht hx2 hy2
                      refine ⟨by simp [fitsL, fits1, g1], by simp [fitsL, fits1, g2], ?_⟩
                      simp only [List.singleton_append, eqCs, eqC, g3, sAndB_val]
                      rw [sBin_val (fun a b => by rw [eqI_eq])]
                · cases h
              · cases h
            · cases h
          · cases h
        · cases h
      · rename_i k' n zs s
        obtain ⟨y1, y2, rfl, hy1, hy2⟩ := hy.of_cons
        obtain ⟨g1, rfl⟩ := hy1.of_ints
        refine ih _ _ _ _ _ _ h hx (DenL.append ?_ hy2)
        simpa using expI_sound n 0 (by simpa using g1.symm)
      · cases h
    · rename_i a r
      split at h
      · rename_i c s
        split at h
        · rename_i q ks
          split at h
          · split at h
            · rename_i t ht
              cases h
              obtain ⟨x1, x2, rfl, hx1, hx2⟩ := hx.of_cons
              obtain ⟨y1, y2, rfl, hy1, hy2⟩ := hy.of_cons
              obtain ⟨u, rfl, _, hu⟩ := hx1.single rfl
              obtain ⟨v, rfl, _, hv⟩ := hy1.single rfl
              cases hu with
              | b hu => cases hv with
                | b hv =>
                  subst hu; subst hv
                  obtain ⟨g1, g2, g3⟩ := ih _ _ _ _ _ _ ht hx2 hy2
                  refine ⟨by simp [fitsL, fits1, g1], by simp [fitsL, fits1, g2], ?_⟩
                  simp only [List.singleton_append, eqCs, eqC, g3, sAndB_val]
                  rw [sEqB_val]
            · cases h
          · cases h
        · cases h
      · cases h
    · rename_i k n zs r
      obtain ⟨x1, x2, rfl, hx1, hx2⟩ := hx.of_cons
      obtain ⟨g1, rfl⟩ := hx1.of_ints
      have exp : ∀ b, eqLS f ks (expI k zs n 0 ++ r) m = some b → fitsL ks (zs.map (Value.int k) ++ x2) = true ∧ fitsL ks ys = true ∧ eqCs (zs.map (Value.int k) ++ x2) ys = b.val := by
        intro b h
        refine ih _ _ _ _ _ _ h (DenL.append ?_ hx2) hy
        simpa using expI_sound n 0 (by simpa using g1.symm)
      split at h
      · rename_i k' n' us s
        split at h
        · rename_i e1
          split at h
          · rename_i e2
            split at h
            · rename_i ks' hks
              split at h
              · rename_i t ht
                cases h
                obtain ⟨y1, y2, rfl, hy1, hy2⟩ := hy.of_cons
                obtain ⟨g2, rfl⟩ := hy1.of_ints
                subst e1; subst e2
                obtain ⟨f1, f2, f3⟩ := ih _ _ _ _ _ _ ht hx2 hy2
                have e3 := kTake_sound hks
                simp only [S.val_lit] at g1 g2
                refine ⟨?_, ?_, ?_⟩
                · rw [e3, ← g1]; exact fitsL_app (fits_rep zs) f1
                · rw [e3, ← g2]; exact fitsL_app (fits_rep us) f2
                · rw [eqCs_append (by simp [g1, g2]), eqCs_ints _ _ (by rw [g1, g2]), f3, sAndB_val, S.val_ex, eqL_eq]
              · cases h
            · cases h
          · cases h
        · exact exp b h
      · exact exp b h
      · cases h
    · cases h

/-- '==' and '!=' where it is no arithmetic. -/
def binS (T : Tree) (op : BinOp) (t : Nat) (xo yo : Operand) (x y : SV) (K : SV → Prop) : Prop :=
  match x, y with
  | .i k a, .i k' b => match op with
    | .shl | .shr => shiftS op k a b K
    | _ => if k = k' then arithS op k a b K else False
  | .agg l, .agg m => match T.find t with
    | none => False
    | some ti => if ti.flat.isEmpty = true then False else if isAggK ti.kind = true then (match eqLS 400 ti.flat l m with
      | none => False
      | some b => match op with
        | .eql => K (.b b)
        | .neq => K (.b (sNot b))
        | _ => False) else False
  | x, y => match T.find t with
    | none => False
    | some ti => match eqK ti.kind (constNil xo yo) x y with
      | none => False
      | some b => match op with
        | .eql => K (.b b)
        | .neq => K (.b (sNot b))
        | _ => False

def binSem (op : BinOp) (t : Nat) (xo yo : Operand) (u v : Value) : Sem Value := do eqGuard op t xo yo u v; binOp op t u v

theorem eqGuard_int {P : Program} {t : Nat} {op : BinOp} {xo yo : Operand} {k k' : IntKind} {a b : Int} (w : World) : (eqGuard op t xo yo (.int k a) (.int k' b)).run P w = .ok () w := by
  unfold eqGuard; cases op <;> rfl

theorem binS_sound {P : Program} {T : Tree} (hT : TOk P T) {op : BinOp} {t : Nat} {xo yo : Operand} {x y : SV} {K : SV → Prop} {ρ : Rho} {u v : Value}
    (hx : Den ρ x u) (hy : Den ρ y v) (h : binS T op t xo yo x y K) : ∃ z c, (∀ w, (binSem op t xo yo u v).run P w = .ok c w) ∧ Den ρ z c ∧ K z := by
  unfold binS at h
  split at h
  · rename_i k a k' b
    cases hx with
    | i hx => cases hy with
      | i hy =>
        subst hx; subst hy
        unfold binSem
        simp only [Sem.run_bind, eqGuard_int, Result.andThen_ok]
        split at h
        · exact shiftS_sound h
        · exact shiftS_sound h
        · split at h
          · rename_i e; subst e; exact arithS_sound h
          · exact h.elim
  · rename_i l m
    cases hx with
    | agg xs hxv hx => cases hy with
      | agg ys hyv hy =>
        subst hxv; subst hyv
        split at h
        · exact h.elim
        · rename_i ti hti
          obtain ⟨i, d, z, i1, i2, i3, i4, i5, i6, i7, i8⟩ := hT t ti hti
          split at h
          · exact h.elim
          · rename_i hne
            have hne : ti.flat ≠ [] := by simpa using hne
            split at h
            · rename_i hagg
              split at h
              · exact h.elim
              · rename_i b hb
                obtain ⟨f1, f2, f3⟩ := eqLS_sound _ _ _ _ _ _ _ hb hx hy
                have ha : aggP P t = true := by
                  cases hk : ti.kind <;> rw [hk] at hagg i7 <;> simp only [isAggK, Bool.false_eq_true] at hagg <;> simp only [kindOk] at i7
                  · subst i7; simp [aggP, i2]
                  · obtain ⟨arr, rfl, _⟩ := i7; simp [aggP, i2]
                obtain ⟨k1, k2⟩ := i8 hne
                have he := fun w => EqAtP.all 9 t _ k1 10000 w (.agg xs.toArray) (.agg ys.toArray) xs ys (by omega) (by unfold WholeAt; rw [if_pos ha]) (by unfold WholeAt; rw [if_pos ha]) f1 f2
                split at h
                · refine ⟨_, .bool b.val, ?_, .b rfl, h⟩
                  intro w; unfold binSem; simp only [Sem.run_bind, run_eqGuard_agg w _ t xo yo _ _ k2, Result.andThen_ok, run_eql_struct, he, f3]
                · refine ⟨_, .bool !b.val, ?_, .b (by rw [sNot_val]), h⟩
                  intro w; unfold binSem; simp only [Sem.run_bind, run_eqGuard_agg w _ t xo yo _ _ k2, Result.andThen_ok, run_neq_struct, he, f3]
                · exact h.elim
            · exact h.elim
  · split at h
    · exact h.elim
    · rename_i ti hti
      obtain ⟨d, h1, h2⟩ := (hT t ti hti).under
      split at h
      · exact h.elim
      · rename_i b hb
        have he := eqK_sound h1 h2 hb hx hy
        have g1 := fun w => (binOp_eql hb hx hy (he w)).1
        have g2 := fun w => (binOp_eql hb hx hy (he w)).2
        split at h
        · refine ⟨_, .bool b.val, ?_, .b rfl, h⟩
          intro w; unfold binSem; simp only [Sem.run_bind, eqGuard_run hb rfl hx hy, Result.andThen_ok, g1]
        · refine ⟨_, .bool !b.val, ?_, .b (by rw [sNot_val]), h⟩
          intro w; unfold binSem; simp only [Sem.run_bind, eqGuard_run hb rfl hx hy, Result.andThen_ok, g2]
        · exact h.elim
end
end Go.Vex
end

/-
  VEX, part 6: the remaining operations that stay inside one step.
-/
section
namespace Go.Vex
noncomputable section

/-- Yields a value, the same in every world, and leaves the world. -/
def Gives (P : Program) (s : Sem Value) (ρ : Rho) (K : SV → Prop) : Prop := ∃ v c, (∀ w, s.run P w = .ok c w) ∧ Den ρ v c ∧ K v


def unS (op : UnOp) (x : SV) (K : SV → Prop) : Prop :=
  match op with
  | .not => match x with
    | .b a => K (.b (sNot a))
    | _ => False
  | .neg => match x with
    | .i k a => K (.i k (sBin (fun a b => k.wrap (a - b)) (subI k) (.lit 0) a))
    | _ => False
  | .xor => match x with
    | .i k a => K (.i k (sUn (fun a => k.wrap (BitVec.ofInt k.bits (if k.signed then -1 else k.max) ^^^ BitVec.ofInt k.bits a).toNat) (cplI k) a))
    | _ => False
  | _ => False
theorem unS_sound {P : Program} {op : UnOp} {x : SV} {K : SV → Prop} {ρ : Rho} {u : Value} (hx : Den ρ x u) (h : unS op x K) : Gives P (Op.unary op u) ρ K := by
  unfold unS at h
  split at h
  · split at h
    · cases hx with | b hx => subst hx; exact ⟨_, _, fun w => by simp [Op.unary]; rfl, .b (by rw [sNot_val]), h⟩
    · exact h.elim
  · split at h
    · cases hx with | i hx => subst hx; exact ⟨_, _, fun w => by simp [Op.unary, Op.intArith]; rfl, .i (by rw [sBin_val (fun a b => by rw [subI_eq])]; simp), h⟩
    · exact h.elim
  · split at h
    · cases hx with | i hx => subst hx; exact ⟨_, _, fun w => by simp [Op.unary, Op.intBits]; rfl, .i (by rw [sUn_val (fun a => by rw [cplI_eq])]; simp), h⟩
    · exact h.elim
  · exact h.elim

def convS (T : Tree) (src dst : Nat) (x : SV) (K : SV → Prop) : Prop :=
  match T.find src with
  | none => False
  | some ts => match T.find dst with
    | none => False
    | some td => match td.kind with
      | .int k => match x with
        | .i _ a => match ts.kind with
          | .int _ => K (.i k (sUn (fun a => k.wrap a) (convI k) a))
          | _ => False
        | _ => False
      | .str => match x with
        | .str s => match ts.kind with
          | .str => K (.str s)
          | _ => False
        | _ => False
      | _ => False
theorem convS_sound {P : Program} {T : Tree} (hT : TOk P T) {src dst : Nat} {x : SV} {K : SV → Prop} {ρ : Rho} {u : Value} (hx : Den ρ x u) (h : convS T src dst x K) :
    Gives P (convert src dst u) ρ K := by
  unfold convS at h
  split at h
  · exact h.elim
  · rename_i ts hts
    obtain ⟨d1, g1, g2⟩ := (hT src ts hts).under
    split at h
    · exact h.elim
    · rename_i td htd
      obtain ⟨d2, g3, g4⟩ := (hT dst td htd).under
      split at h
      · rename_i k hk
        rw [hk] at g4
        split at h
        · split at h
          · rename_i k' hk'
            rw [hk'] at g2
            simp only [kindOk] at g2 g4
            subst g2; subst g4
            cases hx with
            | i hx =>
              subst hx
              exact ⟨_, _, fun w => by simp [convert, g1 w, g3 w, Conv.intToInt]; rfl, .i (by rw [sUn_val (fun a => by rw [convI_eq])]), h⟩
          · exact h.elim
        · exact h.elim
      · rename_i hk
        rw [hk] at g4
        split at h
        · rename_i s
          split at h
          · rename_i hk'
            rw [hk'] at g2
            simp only [kindOk] at g2 g4
            subst g2; subst g4
            cases hx with
            | str hx => subst hx; exact ⟨_, .string s, fun w => by simp [convert, g1 w, g3 w], .str rfl, h⟩
          · exact h.elim
        · exact h.elim
      · exact h.elim

/-- A part of a struct's or an array's value. -/
def partS (T : Tree) (t : Nat) (l : List SV) (off : Nat) (K : SV → Prop) : Prop :=
  match T.find t with
  | none => False
  | some ti => if isAggK ti.kind = true then (match cut l off ti.size with | some l' => K (.agg l') | none => False) else getAt l off K
theorem partS_sound {P : Program} {T : Tree} (hT : TOk P T) {t : Nat} {l : List SV} {off : Nat} {K : SV → Prop} {ρ : Rho} {cs : List Value} (hd : DenL ρ l cs)
    (h : partS T t l off K) : Gives P (part t cs.toArray off) ρ K := by
  unfold partS at h
  split at h
  · exact h.elim
  · rename_i ti hti
    have ok := hT t ti hti
    split at h
    · rename_i ha
      split at h
      · rename_i l' hl'
        obtain ⟨g1, g2⟩ := cut_sound hd hl'
        refine ⟨.agg l', .agg ((cs.drop off).take ti.size).toArray, ?_, .agg _ rfl g1, h⟩
        intro w
        unfold part
        simp only [Sem.run_bind, ok.isAgg w, Result.andThen_ok, ha, if_true, ok.size w, Sem.run_pure]
        simp [List.extract_toArray]
      · exact h.elim
    · rename_i ha
      obtain ⟨v, c, e1, e2, e3, e4⟩ := getAt_sound l off K cs hd h
      refine ⟨v, c, ?_, e3, e4⟩
      intro w
      unfold part
      simp only [Sem.run_bind, ok.isAgg w, Result.andThen_ok, ha, Bool.false_eq_true, if_false, List.getElem?_toArray, e1, Sem.run_pure]

def fieldS (T : Tree) (t : Nat) (x : SV) (f : Nat) (K : SV → Prop) : Prop :=
  match x with
  | .agg l => match T.find t with
    | some ti => match ti.kind with
      | .struct fs => match fs[f]? with
        | some (off, t') => partS T t' l off K
        | none => False
      | _ => False
    | none => False
  | _ => False
theorem fieldS_sound {P : Program} {T : Tree} (hT : TOk P T) {t f : Nat} {x : SV} {K : SV → Prop} {ρ : Rho} {u : Value} (hx : Den ρ x u) (h : fieldS T t x f K) :
    Gives P (Instr.field t u f) ρ K := by
  unfold fieldS at h
  split at h
  · rename_i l
    split at h
    · rename_i ti hti
      obtain ⟨d, h1, h2⟩ := (hT t ti hti).under
      split at h
      · rename_i fs hfs
        rw [hfs] at h2
        obtain ⟨arr, rfl, _, h3⟩ := h2
        split at h
        · rename_i off t' hf
          obtain ⟨fl, g1, g2, g3⟩ := h3 f off t' hf
          cases hx with
          | agg vs hc hl =>
            subst hc
            obtain ⟨v, c, e1, e2, e3⟩ := partS_sound hT hl h
            refine ⟨v, c, ?_, e2, e3⟩
            intro w
            unfold Instr.field
            simp only [Sem.run_bind, h1 w, Result.andThen_ok, g1, asAgg, Sem.run_pure, g2, g3, e1]
        · exact h.elim
      · exact h.elim
    · exact h.elim
  · exact h.elim

/-- An element of an array's value, by a numeral. -/
def indexS (T : Tree) (t : Nat) (x ix : SV) (K : SV → Prop) : Prop :=
  match x with
  | .agg l => match ix with
    | .i _ (.lit n) => match T.find t with
      | some ti => match ti.kind with
        | .array len e => match T.find e with
          | some te => if 0 ≤ n then (if n < len then partS T e l (n.toNat * te.size) K else False) else False
          | none => False
        | _ => False
      | none => False
    | _ => False
  | _ => False
theorem indexS_sound {P : Program} {T : Tree} (hT : TOk P T) {t : Nat} {x ix : SV} {K : SV → Prop} {ρ : Rho} {u d : Value} (hx : Den ρ x u) (hi : Den ρ ix d) (h : indexS T t x ix K) :
    Gives P (Instr.index t u d) ρ K := by
  unfold indexS at h
  split at h
  · rename_i l
    split at h
    · rename_i k n
      cases hi with
      | i hi =>
      subst hi
      split at h
      · rename_i ti hti
        obtain ⟨d, h1, h2⟩ := (hT t ti hti).under
        split at h
        · rename_i len e hk
          rw [hk] at h2
          simp only [kindOk] at h2
          subst h2
          split at h
          · rename_i te hte
            split at h
            · split at h
              · rename_i g1 g2
                cases hx with
                | agg vs hc hl =>
                  subst hc
                  obtain ⟨v, c, e1, e2, e3⟩ := partS_sound hT hl h
                  refine ⟨v, c, ?_, e2, e3⟩
                  intro w
                  unfold Instr.index
                  simp only [asIntOf, Sem.run_bind, Sem.run_pure, Result.andThen_ok, h1 w, S.val_lit, g1, g2, and_self, if_true, (hT e te hte).size w, e1]
              · exact h.elim
            · exact h.elim
          · exact h.elim
        · exact h.elim
      · exact h.elim
    · exact h.elim
  · exact h.elim

theorem DenT.get {ρ : Rho} : ∀ {l : List SV} {cs : List Value} {n : Nat} {v : SV}, DenT ρ l cs → l[n]? = some v → ∃ c, cs[n]? = some c ∧ Den ρ v c
  | [], cs, n, v, h, hn => by simp at hn
  | x :: r, cs, n, v, h, hn => by
    cases h with
    | cons c c2 hc h1 h2 =>
      subst hc
      cases n with
      | zero => simp at hn; subst hn; exact ⟨c, rfl, h1⟩
      | succ n => simpa using DenT.get h2 (by simpa using hn)

def extractS (x : SV) (n : Nat) (K : SV → Prop) : Prop :=
  match x with
  | .tup l => match l[n]? with
    | some v => K v
    | none => False
  | _ => False
theorem extractS_sound {P : Program} {x : SV} {n : Nat} {K : SV → Prop} {ρ : Rho} {u : Value} (hx : Den ρ x u) (h : extractS x n K) : Gives P (Instr.extract u n) ρ K := by
  unfold extractS at h
  split at h
  · split at h
    · rename_i v hv
      cases hx with
      | tup vs hc hl =>
        subst hc
        obtain ⟨c, g1, g2⟩ := hl.get hv
        exact ⟨v, c, fun w => by simp [Instr.extract, g1], g2, h⟩
    · exact h.elim
  · exact h.elim

/-! ### Literals -/
/-- Where the part i of a literal of this type stands, and its size. -/
def placeS (T : Tree) (k : TK) (i : Nat) : Option (Nat × Nat) :=
  match k with
  | .struct fs => match fs[i]? with
    | some (off, t) => match T.find t with
      | some ti => some (off, ti.size)
      | none => none
    | none => none
  | .array n e => match T.find e with
    | some te => some (i * te.size, te.size)
    | none => none
  | _ => none
def fillS (pl : Nat → Option (Nat × Nat)) : List SV → List (Nat × SV) → Option (List SV)
  | cur, [] => some cur
  | cur, (i, v) :: rest => match pl i with
    | none => none
    | some (off, size) => match cellsV v with
      | none => none
      | some l => if sizeL l = some size then (match setAt cur off size l with | some cur' => fillS pl cur' rest | none => none) else none

theorem foldl_set (vs : List Value) : ∀ (cs : Array Value) (off k : Nat), ((vs.zipIdx k).foldl (fun cs x => cs.setIfInBounds (off + x.2) x.1) cs).toList = setMany cs.toList (off + k) vs := by
  induction vs with
  | nil => intro cs off k; simp [setMany]
  | cons v r ih =>
    intro cs off k
    simp only [List.zipIdx_cons, List.foldl_cons]
    rw [ih, setMany, Array.toList_setIfInBounds, Nat.add_assoc]

inductive DenP (ρ : Rho) : List (Nat × SV) → List (Nat × Value) → Prop
  | nil : DenP ρ [] []
  | cons {i : Nat} {v : SV} {c : Value} {l : List (Nat × SV)} {cs : List (Nat × Value)} (h : Den ρ v c) (hr : DenP ρ l cs) : DenP ρ ((i, v) :: l) ((i, c) :: cs)

theorem fillS_sound {ρ : Rho} {pl pl' : Nat → Option (Nat × Nat)} (hpl : ∀ i r, pl i = some r → pl' i = some r) : ∀ {parts : List (Nat × SV)} {cs : List (Nat × Value)} {cur cur' : List SV} {cells : Array Value},
    DenP ρ parts cs → DenL ρ cur cells.toList → fillS pl cur parts = some cur' → ∃ cells', Instr.fill pl' cells cs = some cells' ∧ DenL ρ cur' cells'.toList ∧ cells'.size = cells.size
  | _, _, cur, cur', cells, .nil, hc, h => by
    simp only [fillS, Option.some.injEq] at h; subst h; exact ⟨cells, rfl, hc, rfl⟩
  | _, _, cur, cur', cells, @DenP.cons _ i v c l cs hv hr, hc, h => by
    unfold fillS at h
    split at h
    · cases h
    · rename_i off size hp
      split at h
      · cases h
      · rename_i lv hlv
        split at h
        · rename_i hsz
          split at h
          · rename_i cur2 h2
            have hd := cellsV_sound hlv hv
            have hlen := sizeL_len hd hsz
            rw [← hlen] at h2
            obtain ⟨g1, g2⟩ := setAt_sound hc hd h2
            have hcl : c.cells.size = size := by simpa using hlen
            let cells2 := c.cells.zipIdx.foldl (fun cs x => cs.setIfInBounds (off + x.2) x.1) cells
            have e2 : cells2.toList = setMany cells.toList off c.cells.toList := by
              have := foldl_set c.cells.toList cells off 0
              simp only [cells2]
              rw [← Array.foldl_toList, Array.toList_zipIdx]
              simpa using this
            have e3 : DenL ρ cur2 cells2.toList := by rw [e2, setMany_eq _ _ _ g2]; exact g1
            obtain ⟨cells', f1, f2, f3⟩ := fillS_sound hpl hr e3 h
            refine ⟨cells', ?_, f2, ?_⟩
            · unfold Instr.fill
              simp only [hpl _ _ hp, hcl]
              rw [if_neg (by simp; simp at g2; omega)]
              exact f1
            · rw [f3]
              have := congrArg List.length e2
              rw [setMany_length] at this
              simpa using this
          · cases h
        · cases h

def buildS (T : Tree) (t : Nat) (parts : List (Nat × SV)) (K : SV → Prop) : Prop :=
  match T.find t with
  | none => False
  | some ti => match ti.kind with
    | .struct fs => if fs.all (fun f => (T.find f.2).isSome) = true then (match fillS (placeS T (.struct fs)) ti.zero parts with | some l => K (.agg l) | none => False) else False
    | .array n e => match T.find e with
      | some te => match fillS (placeS T (.array n e)) ti.zero parts with
        | some l => K (.agg l)
        | none => False
      | none => False
    | _ => False

theorem run_mapM_places {P : Program} (w : World) : ∀ (fs : List Field), (∀ f ∈ fs, ∃ i, P.info? f.type = some i) →
    (fs.mapM (fun f => do pure (f.offset, ← sizeOf f.type)) : Sem (List (Nat × Nat))).run P w = .ok (fs.map fun f => (f.offset, ((P.info? f.type).map (·.size)).getD 0)) w := by
  intro fs
  induction fs with
  | nil => intro _; simp
  | cons f r ih =>
    intro h
    obtain ⟨i, hi⟩ := h f (by simp)
    simp only [List.mapM_cons, Sem.run_bind, sizeOf, run_typeInfo' hi, Result.andThen_ok, Sem.run_pure, List.map_cons, hi, Option.map_some, Option.getD_some]
    have := ih (fun g hg => h g (by simp [hg]))
    simp only [sizeOf] at this
    rw [this]
    rfl

theorem TIok.info {P : Program} {t : Nat} {ti : TI} (h : TIok P t ti) : ∃ i, P.info? t = some i ∧ i.size = ti.size ∧ i.bytes = ti.bytes := by
  obtain ⟨i, d, z, h1, h2, h3, h4, h5, h6, h7, _⟩ := h; exact ⟨i, h1, h3, h4⟩

theorem buildS_sound {P : Program} {T : Tree} (hT : TOk P T) {t : Nat} {parts : List (Nat × SV)} {cs : List (Nat × Value)} {K : SV → Prop} {ρ : Rho} (hp : DenP ρ parts cs)
    (h : buildS T t parts K) : Gives P (Instr.build t cs.toArray) ρ K := by
  unfold buildS at h
  split at h
  · exact h.elim
  · rename_i ti hti
    have ok := hT t ti hti
    obtain ⟨d, h1, h2⟩ := ok.under
    obtain ⟨z, hz, hzd⟩ := ok.zeroV
    split at h
    · rename_i fs hk
      rw [hk] at h2
      obtain ⟨arr, rfl, hsz, h3⟩ := h2
      split at h
      · rename_i hall
        split at h
        · rename_i l hl
          have hinfo : ∀ f ∈ arr.toList, ∃ i, P.info? f.type = some i := by
            intro f hf
            obtain ⟨j, hj⟩ := List.getElem?_of_mem hf
            have hlt : j < fs.length := by
              have := (List.getElem?_eq_some_iff.1 hj).1
              simpa [hsz] using this
            obtain ⟨f', g1, g2, g3⟩ := h3 j (fs[j]).1 (fs[j]).2 (by rw [List.getElem?_eq_getElem hlt])
            have : f' = f := by
              have e : arr.toList[j]? = some f' := by rw [Array.getElem?_toList]; exact g1
              rw [hj] at e; exact (Option.some.inj e).symm
            subst this
            have hm := List.all_eq_true.1 hall (fs[j]) (List.getElem_mem hlt)
            obtain ⟨tj, htj⟩ := Option.isSome_iff_exists.1 hm
            obtain ⟨i, hi, _⟩ := (hT _ _ htj).info
            exact ⟨i, by rw [g3]; exact hi⟩
          let places := arr.toList.map fun f => (f.offset, ((P.info? f.type).map (·.size)).getD 0)
          have hpl : ∀ i r, placeS T (.struct fs) i = some r → places.toArray[i]? = some r := by
            intro i r hr
            simp only [placeS] at hr
            split at hr
            · rename_i off t' hf
              split at hr
              · rename_i tj htj
                cases hr
                obtain ⟨f', g1, g2, g3⟩ := h3 i off t' hf
                obtain ⟨ii, hi, hs, _⟩ := (hT _ _ htj).info
                have e : arr.toList[i]? = some f' := by rw [Array.getElem?_toList]; exact g1
                simp only [places, List.getElem?_toArray, List.getElem?_map, e, Option.map_some, g2, g3, hi, Option.getD_some, hs]
              · cases hr
            · cases hr
          obtain ⟨cells', f1, f2, f3⟩ := fillS_sound (pl' := fun i => places.toArray[i]?) hpl hp (hzd.weak) hl
          refine ⟨.agg l, .agg cells', ?_, .agg cells'.toList (by simp) f2, h⟩
          intro w
          unfold Instr.build
          simp only [Sem.run_bind, hz w, Result.andThen_ok, h1 w]
          rw [Array.mapM_eq_mapM_toList]
          simp only [Sem.run_map]
          rw [run_mapM_places (P := P) w arr.toList hinfo]
          simp only [Result.andThen_ok]
          have f1' : Instr.fill (fun x => (arr.toList.map fun f => (f.offset, ((P.info? f.type).map (·.size)).getD 0)).toArray[x]?) z.cells cs = some cells' := f1
          rw [f1']
          rfl
        · exact h.elim
      · exact h.elim
    · rename_i n e hk
      rw [hk] at h2
      simp only [kindOk] at h2
      subst h2
      split at h
      · rename_i te hte
        split at h
        · rename_i l hl
          have hpl : ∀ i r, placeS T (.array n e) i = some r → (fun i => some (i * te.size, te.size)) i = some r := by
            intro i r hr; simpa [placeS, hte] using hr
          obtain ⟨cells', f1, f2, f3⟩ := fillS_sound hpl hp (hzd.weak) hl
          refine ⟨.agg l, .agg cells', ?_, .agg cells'.toList (by simp) f2, h⟩
          intro w
          unfold Instr.build
          simp only [Sem.run_bind, hz w, Result.andThen_ok, h1 w, (hT e te hte).size w, f1, Sem.run_pure]
        · exact h.elim
      · exact h.elim
    · exact h.elim
#print axioms buildS_sound
end
end Go.Vex
end

/-
  VEX, part 7: slices (cut, made, written out), lengths; the evaluator of one operation, and that the model does as it says.
-/
section
namespace Go.Vex
noncomputable section


def sSubN (a b : S Nat) : S Nat :=
  match b with
  | .lit 0 => a
  | .lit b => match a with
    | .lit a => .lit (a - b)
    | .ex a => .ex (subN a b)
  | .ex b => .ex (subN a.val b)
theorem sSubN_val (a b : S Nat) : (sSubN a b).val = a.val - b.val := by
  unfold sSubN; split
  · simp
  · split <;> simp [subN_eq]
  · simp [subN_eq]
def sShN (cap o l : S Nat) : S Nat :=
  match l with
  | .lit 0 => o
  | l => .ex (shN cap.val o.val l.val)
theorem sShN_val (cap o l : S Nat) : (sShN cap o l).val = if cap.val = l.val then o.val else o.val + l.val := by
  unfold sShN; split
  · split <;> simp_all
  · rw [shN_eq]; simp
def sOfN (a : S Nat) : S Int := sUn (fun (n : Nat) => (n : Int)) ofN a
theorem sOfN_val (a : S Nat) : (sOfN a).val = (a.val : Int) := sUn_val (fun (n : Nat) => by rw [ofN_eq]) a

def bndS (n : S Int) (m : S Nat) (K : S Nat → Prop) : Prop :=
  match n with
  | .lit i => match m with
    | .lit m => if 0 ≤ i then (if i ≤ m then K (.lit i.toNat) else False) else False
    | .ex m => if i = 0 then K (.lit 0) else leR i m ∧ K (.lit i.toNat)
  | .ex i => leR i m.val ∧ K (.ex (toN i))
theorem bndS_sound {n : S Int} {m : S Nat} {K : S Nat → Prop} (h : bndS n m K) : 0 ≤ n.val ∧ n.val ≤ m.val ∧ ∃ j : S Nat, j.val = n.val.toNat ∧ K j := by
  unfold bndS at h
  split at h
  · split at h
    · split at h
      · split at h
        · exact ⟨‹_›, ‹_›, _, rfl, h⟩
        · exact h.elim
      · exact h.elim
    · split at h
      · rename_i e; subst e; exact ⟨by simp, by simp, _, by simp, h⟩
      · obtain ⟨h1, h2⟩ := h; rw [leR_eq] at h1; exact ⟨h1.1, h1.2, _, rfl, h2⟩
  · obtain ⟨h1, h2⟩ := h; rw [leR_eq] at h1; exact ⟨h1.1, h1.2, _, by rw [toN_eq]; rfl, h2⟩

/-- A bound of a slice that may be left out. -/
def bndO (x : Option SV) (dft m : S Nat) (K : S Nat → Prop) : Prop :=
  match x with
  | none => K dft
  | some (.i _ n) => bndS n m K
  | _ => False

theorem run_bound {P : Program} {k : IntKind} {n : Int} {m : Nat} {code : BoundsCode} (h0 : 0 ≤ n) (h1 : n ≤ m) (w : World) :
    (Instr.sliceBound (.int k n) m code).run P w = .ok n.toNat w := by
  unfold Instr.sliceBound
  simp [asIntOf, h0, h1]

/-- The operands that may be left out denote. -/
def DenO (ρ : Rho) : Option SV → Option Value → Prop
  | none, none => True
  | some x, some v => Den ρ x v
  | _, _ => False

theorem run_bounds {P : Program} {isS : Bool} {len cap : S Nat} {lo hi : Option SV} {lo' hi' : Option Value} {ρ : Rho} {K : S Nat → S Nat → Prop}
    (hl : DenO ρ lo lo') (hh : DenO ρ hi hi') (hK : bndO hi len cap fun h => bndO lo (.lit 0) h fun l => K l h) (hlen : len.val ≤ cap.val) :
    ∃ l h : S Nat, (∀ w, (Instr.sliceBounds isS len.val cap.val lo' hi' none).run P w = .ok (l.val, h.val, cap.val) w) ∧ l.val ≤ h.val ∧ h.val ≤ cap.val ∧ K l h := by
  have key : ∀ (h : S Nat), h.val ≤ cap.val → (∀ w, ((match hi', (none : Option Value) with
      | some v, some _ => Instr.sliceBound v cap.val .slice3B
      | some v, none => Instr.sliceBound v cap.val (if isS then .sliceAcap else .sliceAlen)
      | none, none => pure len.val
      | none, some _ => stuck "Slice: max without high") : Sem Nat).run P w = .ok h.val w) → (bndO lo (.lit 0) h fun l => K l h) →
      ∃ l h : S Nat, (∀ w, (Instr.sliceBounds isS len.val cap.val lo' hi' none).run P w = .ok (l.val, h.val, cap.val) w) ∧ l.val ≤ h.val ∧ h.val ≤ cap.val ∧ K l h := by
    intro h hle hrun hK
    cases lo with
    | none =>
      cases lo' with
      | none =>
        refine ⟨.lit 0, h, ?_, by simp, hle, hK⟩
        intro w
        unfold Instr.sliceBounds
        have := hrun w
        cases hi' <;> simp at this ⊢ <;> simp [this]
      | some v => exact hl.elim
    | some x =>
      cases lo' with
      | none => exact hl.elim
      | some v =>
        cases x with
        | i k n =>
          obtain ⟨g1, g2, j, g3, g4⟩ := bndS_sound (show bndS n h (fun l => K l h) from hK)
          cases hl with
          | i hv =>
            subst hv
            refine ⟨j, h, ?_, by rw [g3]; omega, hle, g4⟩
            intro w
            unfold Instr.sliceBounds
            have := hrun w
            cases hi' <;> simp at this ⊢ <;> simp [this, run_bound g1 g2, g3]
        | _ => exact (show False from hK).elim
  cases hi with
  | none =>
    cases hi' with
    | none => exact key len hlen (fun w => rfl) hK
    | some v => exact hh.elim
  | some x =>
    cases hi' with
    | none => exact hh.elim
    | some v =>
      cases x with
      | i k n =>
        obtain ⟨g1, g2, j, g3, g4⟩ := bndS_sound (show bndS n cap (fun h => bndO lo (.lit 0) h fun l => K l h) from hK)
        cases hh with
        | i hv =>
          subst hv
          exact key j (by rw [g3]; omega) (fun w => by simp [run_bound g1 g2, g3]) g4
      | _ => exact (show False from hK).elim

def sliceS (T : Tree) (t : Nat) (x : SV) (lo hi : Option SV) (K : SV → Prop) : Prop :=
  match T.find t with
  | none => False
  | some ti => match ti.kind with
    | .slice e => match T.find e with
      | none => False
      | some te => match x with
        | .slc y l w o len cap => if w = te.size then (nLe len.val cap.val ∧ bndO hi len cap fun h => bndO lo (.lit 0) h fun j => K (.slc y l w (sShN cap o j) (sSubN h j) (sSubN cap j))) else False
        | .nilslc => bndO hi (.lit 0) (.lit 0) fun h => bndO lo (.lit 0) h fun j => K .nilslc
        | _ => False
    | .array n e => match T.find e with
      | none => False
      | some te => match x with
        | .p y (.at l) => bndO hi (.lit n) (.lit n) fun h => bndO lo (.lit 0) h fun j => K (.slc y l te.size (sShN (.lit n) (.lit 0) j) (sSubN h j) (sSubN (.lit n) j))
        | .p y (.row l i wr c) => bndO hi (.lit n) (.lit n) fun h => bndO lo (.lit 0) h fun j => match j with
          | .lit a => if a < n then K (.slr y (.row l i wr (c + a * te.size)) te.size (sSubN h (.lit a)) (.lit (n - a))) else False
          | .ex _ => False
        | _ => False
    | _ => False

theorem sliceS_sound {P : Program} {T : Tree} (hT : TOk P T) {t : Nat} {x : SV} {lo hi : Option SV} {lo' hi' : Option Value} {K : SV → Prop} {ρ : Rho} {u : Value}
    (hx : Den ρ x u) (hl : DenO ρ lo lo') (hh : DenO ρ hi hi') (h : sliceS T t x lo hi K) : Gives P (Instr.sliceAt t u lo' hi' none) ρ K := by
  unfold sliceS at h
  split at h
  · exact h.elim
  · rename_i ti hti
    obtain ⟨d, h1, h2⟩ := (hT t ti hti).under
    split at h
    · rename_i e hk
      rw [hk] at h2
      simp only [kindOk] at h2
      subst h2
      split at h
      · exact h.elim
      · rename_i te hte
        split at h
        · rename_i y l ws o len cap
          split at h
          · rename_i hw
            obtain ⟨hlen, h⟩ := h
            rw [nLe_eq] at hlen
            obtain ⟨j, hh', g1, g2, g3, g4⟩ := run_bounds (P := P) (isS := true) hl hh h hlen
            cases hx with
            | slc r hx hn hc =>
              subst hc
              refine ⟨_, .slice (r.map fun q => ⟨q.1, q.2 + (l + (sShN cap o j).val * ws), none⟩) (sSubN hh' j).val (sSubN cap j).val, ?_, .slc r hx ?_ rfl, g4⟩
              · intro w
                unfold Instr.sliceAt Instr.slice
                simp only [Sem.run_bind, h1 w, Result.andThen_ok, g1, (hT e te hte).size w, Sem.run_pure, sSubN_val, sShN_val]
                congr 2
                split
                · simp
                · rename_i e1
                  cases r with
                  | none => simp
                  | some q => simp [addr_add, hw, Nat.add_mul, Nat.add_assoc]
              · intro e1
                have := hn e1
                rw [sSubN_val, sSubN_val]; omega
          · exact h.elim
        · cases hx with
          | nilslc hc =>
            subst hc
            obtain ⟨j, hh', g1, g2, g3, g4⟩ := run_bounds (P := P) (isS := true) (len := .lit 0) (cap := .lit 0) hl hh h (by simp)
            simp only [S.val_lit] at g1 g3
            refine ⟨_, .slice none 0 0, ?_, .nilslc rfl, g4⟩
            intro w
            unfold Instr.sliceAt Instr.slice
            simp only [Sem.run_bind, h1 w, Result.andThen_ok, g1, (hT e te hte).size w, Sem.run_pure]
            have e1 : j.val = 0 := by omega
            have e2 : hh'.val = 0 := by omega
            simp [e1, e2]
        · exact h.elim
    · rename_i n e hk
      rw [hk] at h2
      simp only [kindOk] at h2
      subst h2
      split at h
      · exact h.elim
      · rename_i te hte
        split at h
        · rename_i y l
          obtain ⟨j, hh', g1, g2, g3, g4⟩ := run_bounds (P := P) (isS := false) (len := .lit n) (cap := .lit n) hl hh h (by simp)
          simp only [S.val_lit] at g1
          cases hx with
          | p b o0 hx hc =>
            subst hc
            refine ⟨_, .slice (some ⟨b, o0 + (l + (sShN (.lit n) (.lit 0) j).val * te.size), none⟩) (sSubN hh' j).val (sSubN (.lit n) j).val, ?_, .slc (some (b, o0)) hx (by simp) rfl, g4⟩
            intro w
            unfold Instr.sliceAt
            have es : (sShN (.lit n) (.lit 0) j).val = if n = j.val then 0 else j.val := by rw [sShN_val]; simp
            rw [es]
            simp only [Sem.run_bind, h1 w, Result.andThen_ok, Instr.sureAddr, Sem.run_pure, g1, (hT e te hte).size w, sSubN_val, S.val_lit]
            congr 3
            split <;> simp [addr_add, Off.val, Nat.add_assoc]
        · rename_i y l i wr c
          obtain ⟨j, hh', g1, g2, g3, g4⟩ := run_bounds (P := P) (isS := false) (len := .lit n) (cap := .lit n) hl hh h (by simp)
          simp only [S.val_lit] at g1
          split at g4
          · rename_i a
            split at g4
            · rename_i ha
              cases hx with
              | p b o0 hx hc =>
                subst hc
                refine ⟨_, .slice (some ⟨b, o0 + (Off.row l i wr (c + a * te.size)).val, none⟩) (sSubN hh' (.lit a)).val (n - a), ?_, .slr b o0 hx rfl, g4⟩
                intro w
                unfold Instr.sliceAt
                simp only [Sem.run_bind, h1 w, Result.andThen_ok, Instr.sureAddr, Sem.run_pure, g1, (hT e te hte).size w, sSubN_val, S.val_lit]
                congr 3
                rw [if_neg (by omega)]
                simp [addr_add, Off.val, Nat.add_assoc]
            · exact g4.elim
          · exact g4.elim
        · exact h.elim
    · exact h.elim
#print axioms sliceS_sound
end
end Go.Vex
end
