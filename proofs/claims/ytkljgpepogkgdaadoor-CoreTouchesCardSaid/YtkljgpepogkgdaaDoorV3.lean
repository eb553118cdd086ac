/-
  VEX, part 3: writing the cells of a resource; loads and stores in the world.
-/
import Derived.Test.YtkljgpepogkgdaaDoorV2
import Derived.Test.YtkljgpepogkgdaaDoorVD
import Derived.Laws.NewBlocks
set_option linter.unusedSimpArgs false
namespace Go.Vex
set_option linter.unusedVariables false
noncomputable section

theorem ints_set {k : IntKind} {zs : List Int} {n : Nat} {z : Int} : (zs.map (Value.int k)).set n (.int k z) = (setI zs n z).map (Value.int k) := by
  rw [setI_eq]; rw [List.map_set]

/-- A number of this kind. -/
def numOf (k : IntKind) : SV → Option Int
  | .i k' z => if k' = k then some z.val else none
  | _ => none
theorem numOf_sound {ρ : Rho} {k : IntKind} {v : SV} {z : Int} {c : Value} (h : numOf k v = some z) (hv : Den ρ v c) : c = .int k z := by
  unfold numOf at h
  split at h
  · split at h
    · rename_i e; subst e; cases h; cases hv with | i hv => exact hv
    · cases h
  · cases h

def putAt : List SV → Nat → SV → (List SV → Prop) → Prop
  | [], _, _, _ => False
  | x :: r, n, v, K =>
    match x with
    | .ints k m zs =>
      match m with
      | .lit m => if n < m then (match numOf k v with | some z => K (.ints k (.lit m) (setI zs n z) :: r) | none => False) else putAt r (n - m) v fun r' => K (.ints k (.lit m) zs :: r')
      | .ex m => nLt n m ∧ (match numOf k v with | some z => K (.ints k (.ex m) (setI zs n z) :: r) | none => False)
    | .rows .. => False
    | .junk .. => False
    | x => if n = 0 then K (v :: r) else putAt r (n - 1) v fun r' => K (x :: r')

theorem putInt {ρ : Rho} {k : IntKind} {m : S Nat} {zs : List Int} {n : Nat} {v : SV} {c : Value} {K : SV → Prop} (hm : zs.length = m.val) (hn : n < m.val)
    (hv : Den ρ v c) (h : match numOf k v with | some z => K (.ints k m (setI zs n z)) | none => False) :
    ∃ x, DenC ρ x ((zs.map (Value.int k)).set n c) ∧ K x := by
  split at h
  · rename_i z hz
    rw [numOf_sound hz hv]
    exact ⟨_, .ints (by rw [setI_eq]; simpa using hm) (by rw [ints_set]), h⟩
  · exact h.elim

theorem putAt_sound {ρ : Rho} {v : SV} {c : Value} (hv : Den ρ v c) (hc : oneC c = true) (hsv : single v = true) : ∀ (l : List SV) (n : Nat) (K : List SV → Prop) (cs : List Value), DenL ρ l cs → putAt l n v K →
    ∃ l', DenL ρ l' (cs.set n c) ∧ n < cs.length ∧ K l'
  | [], n, K, cs, _, h => by simp [putAt] at h
  | x :: r, n, K, cs, hd, h => by
    obtain ⟨c1, c2, rfl, h1, h2⟩ := hd.of_cons
    by_cases hs : single x = true
    · obtain ⟨u, rfl, g1, g2⟩ := h1.single hs
      have h' : if n = 0 then K (v :: r) else putAt r (n - 1) v fun r' => K (x :: r') := by cases x <;> first | exact h | simp [single] at hs
      split at h'
      · rename_i e; subst e
        exact ⟨_, .cons [c] c2 (by simp) (.one c rfl hc hv) h2, by simp, h'⟩
      · obtain ⟨l', e1, e2, e3⟩ := putAt_sound hv hc hsv r (n - 1) _ c2 h2 h'
        obtain ⟨n', rfl⟩ : ∃ n', n = n' + 1 := ⟨n - 1, by omega⟩
        exact ⟨_, .cons [u] (c2.set n' c) (by simp) h1 (by simpa using e1), by simpa using e2, e3⟩
    · cases x <;> try (simp [single] at hs; done)
      case ints k m zs =>
        obtain ⟨hm, rfl⟩ := h1.of_ints
        cases m with
        | lit m =>
          have h' : if n < m then (match numOf k v with | some z => K (.ints k (.lit m) (setI zs n z) :: r) | none => False) else putAt r (n - m) v fun r' => K (.ints k (.lit m) zs :: r') := h
          simp only [S.val_lit] at hm
          split at h'
          · rename_i hlt
            obtain ⟨x', e1, e2⟩ := putInt (K := fun x => K (x :: r)) (m := .lit m) hm hlt hv h'
            exact ⟨_, .cons _ c2 (by rw [List.set_append_left _ _ (by simp; omega)]) e1 h2, by simp; omega, e2⟩
          · obtain ⟨l', e1, e2, e3⟩ := putAt_sound hv hc hsv r (n - m) _ c2 h2 h'
            exact ⟨_, .cons _ _ (by rw [List.set_append_right _ _ (by simp; omega)]) h1 (by simpa [hm] using e1), by simp; omega, e3⟩
        | ex m =>
          obtain ⟨hlt, h'⟩ : nLt n m ∧ (match numOf k v with | some z => K (.ints k (.ex m) (setI zs n z) :: r) | none => False) := h
          rw [nLt_eq] at hlt
          simp only [S.val_ex] at hm
          obtain ⟨x', e1, e2⟩ := putInt (K := fun x => K (x :: r)) (m := .ex m) hm hlt hv h'
          exact ⟨_, .cons _ c2 (by rw [List.set_append_left _ _ (by simp; omega)]) e1 h2, by simp; omega, e2⟩
      case rows w m f => exact (show False from h).elim
      case junk w m => exact (show False from h).elim

def putRow : List SV → Nat → Nat → SV → (List SV → Prop) → Prop
  | [], _, _, _, _ => False
  | x :: r, l, i, v, K =>
    if l = 0 then (match x with
      | .ints k m zs => nLt i m.val ∧ (match numOf k v with | some z => K (.ints k m (setI zs i z) :: r) | none => False)
      | _ => False)
    else match sizeS x with
      | some s => if s ≤ l then putRow r (l - s) i v fun r' => K (x :: r') else False
      | none => False

theorem putRow_sound {ρ : Rho} {v : SV} {c : Value} (hv : Den ρ v c) : ∀ (l : List SV) (b i : Nat) (K : List SV → Prop) (cs : List Value), DenL ρ l cs → putRow l b i v K →
    ∃ l', DenL ρ l' (cs.set (b + i) c) ∧ b + i < cs.length ∧ K l'
  | [], b, i, K, cs, _, h => by simp [putRow] at h
  | x :: r, b, i, K, cs, hd, h => by
    obtain ⟨c1, c2, rfl, h1, h2⟩ := hd.of_cons
    unfold putRow at h
    split at h
    · rename_i e; subst e
      split at h
      · rename_i k m zs
        obtain ⟨hm, rfl⟩ := h1.of_ints
        obtain ⟨hlt, h'⟩ := h
        rw [nLt_eq] at hlt
        obtain ⟨x', e1, e2⟩ := putInt (K := fun x => K (x :: r)) hm hlt hv h'
        exact ⟨_, .cons _ c2 (by rw [Nat.zero_add, List.set_append_left _ _ (by simp; omega)]) e1 h2, by simp; omega, e2⟩
      · exact h.elim
    · split at h
      · rename_i s hs
        have hl := sizeS_len h1 hs
        split at h
        · obtain ⟨l', e1, e2, e3⟩ := putRow_sound hv r (b - s) i _ c2 h2 h
          refine ⟨_, .cons _ _ (by rw [List.set_append_right _ _ (by omega)]) h1 ?_, by simp; omega, e3⟩
          rw [hl, show b + i - s = b - s + i by omega]; exact e1
        · exact h.elim
      · exact h.elim

def putOff (l : List SV) (o : Off) (v : SV) (K : List SV → Prop) : Prop :=
  match o with
  | .at n => putAt l n v K
  | .row b i w c => if w = 1 then (if c = 0 then putRow l b i v K else False) else False
theorem putOff_sound {ρ : Rho} {v : SV} {c : Value} (hv : Den ρ v c) (hc : oneC c = true) (hsv : single v = true) {l : List SV} {o : Off} {K : List SV → Prop} {cs : List Value} (hd : DenL ρ l cs) (h : putOff l o v K) :
    ∃ l', DenL ρ l' (cs.set o.val c) ∧ o.val < cs.length ∧ K l' := by
  cases o with
  | «at» n => exact putAt_sound hv hc hsv l n K cs hd h
  | row b i w c' =>
    unfold putOff at h
    simp only at h
    split at h
    · split at h
      · rename_i e1 e2; subst e1; subst e2
        obtain ⟨l', g1, g2, g3⟩ := putRow_sound hv l b i K cs hd h
        exact ⟨l', by simpa [Off.val] using g1, by simpa [Off.val] using g2, g3⟩
      · exact h.elim
    · exact h.elim

/-- Many cells, from a numeral on. -/
def setAt (l : List SV) (off n : Nat) (new : List SV) : Option (List SV) :=
  match takeN l off with
  | some a => match dropN l (off + n) with
    | some b => some (a ++ (new ++ b))
    | none => none
  | none => none
theorem setAt_sound {ρ : Rho} {l l' new : List SV} {off : Nat} {cs ds : List Value} (hd : DenL ρ l cs) (hn : DenL ρ new ds) (h : setAt l off ds.length new = some l') :
    DenL ρ l' (cs.take off ++ (ds ++ cs.drop (off + ds.length))) ∧ off + ds.length ≤ cs.length := by
  unfold setAt at h
  split at h
  · rename_i a ha
    split at h
    · rename_i b hb
      cases h
      obtain ⟨g1, g2⟩ := takeN_sound _ _ _ _ hd ha
      obtain ⟨g3, g4⟩ := dropN_sound _ _ _ _ hd hb
      exact ⟨g1.append (hn.append g3), g4⟩
    · cases h
  · cases h

/-! ### In the world -/
theorem addr_add (b o n : Nat) : (⟨b, o, none⟩ : Addr).add n = ⟨b, o + n, none⟩ := by
  unfold Addr.add; split <;> simp_all

/-- What is read of a resource. -/
def blkCells : Blk → Option (List SV)
  | .cells _ l => some l
  | .ro l => some l
  | .glob _ l => some l
  | _ => none

theorem cell_of {w : World} {b j : Nat} {arr : Array Value} {T : TypeId} {fz : Nat × Nat} (h : w.heap[b]? = some (.cells arr T fz)) : w.cell? ⟨b, j, none⟩ = arr[j]? := by
  simp [World.cell?, h]

theorem HSatO.reads {ρ : Rho} {ω : List Own} {hp : List Blk} {w : World} (h : HSatO ρ ω hp w) {x b o0 : Nat} {k : Blk} {l : List SV}
    (hx : ρ[x]? = some (some (b, o0))) (hk : hp[x]? = some k) (hl : blkCells k = some l) :
    ∃ cs, DenL ρ l cs ∧ ∀ j c, cs[j]? = some c → w.cell? ⟨b, o0 + j, none⟩ = some c := by
  have hlt : x < ρ.length := (List.getElem?_eq_some_iff.1 hx).1
  obtain ⟨o, ho⟩ : ∃ o, ω[x]? = some o := ⟨ω[x]'(by rw [h.lenω]; exact hlt), by simp⟩
  have hs := h.sat x _ o k hx ho hk
  cases k <;> simp only [blkCells, Option.some.injEq, reduceCtorEq] at hl
  case cells T l' =>
    subst hl
    obtain ⟨cs, e4, ⟨_, e1, _⟩ | ⟨b', e1, e2, e3⟩⟩ := hs
    · cases e1
    cases e1
    exact ⟨cs, e4, fun j c hc => by rw [cell_of e3, Nat.zero_add]; simpa using hc⟩
  case ro l' =>
    subst hl
    obtain ⟨cs, e1, e2⟩ := hs
    rcases e2 with ⟨rfl, _⟩ | ⟨b', o', e2, rfl, e4⟩
    · exact ⟨[], e1, fun j c hc => by simp at hc⟩
    · cases e2
      rcases e4 with rfl | ⟨arr, T, fz, e4, e5⟩
      · exact ⟨[], e1, fun j c hc => by simp at hc⟩
      · exact ⟨cs, e1, fun j c hc => by rw [cell_of e4]; exact e5 j c hc⟩
  case glob g l' =>
    subst hl
    obtain ⟨cs, arr, T, fz, e1, e2, rfl, e4, e5⟩ := hs
    cases e2
    exact ⟨cs, e1, fun j c hc => by rw [cell_of e4, Nat.zero_add]; exact e5 j c hc⟩

/-- A load of one cell. -/
theorem HSat.load1 {ρ : Rho} {hp : List Blk} {w : World} (h : HSat ρ hp w) {x b o0 : Nat} {k : Blk} {l : List SV} {o : Off} {K : SV → Prop}
    (hx : ρ[x]? = some (some (b, o0))) (hk : hp[x]? = some k) (hl : blkCells k = some l) (hK : getOff l o K) :
    ∃ v c, w.cell? ⟨b, o0 + o.val, none⟩ = some c ∧ oneC c = true ∧ Den ρ v c ∧ K v := by
  obtain ⟨ω, h⟩ := h
  obtain ⟨cs, h1, h2⟩ := h.reads hx hk hl
  obtain ⟨v, u, e1, e2, e3, e4⟩ := getOff_sound h1 hK
  exact ⟨v, u, h2 _ _ e1, e2, e3, e4⟩
/-- A load of many. -/
theorem HSat.loadN {ρ : Rho} {hp : List Blk} {w : World} (h : HSat ρ hp w) {x b o0 n : Nat} {k : Blk} {l : List SV} {o : Off} {K : List SV → Prop}
    (hx : ρ[x]? = some (some (b, o0))) (hk : hp[x]? = some k) (hl : blkCells k = some l) (hK : cutOff l o n K) :
    ∃ l' cs, cs.length = n ∧ (∀ j c, cs[j]? = some c → w.cell? ⟨b, o0 + o.val + j, none⟩ = some c) ∧ DenL ρ l' cs ∧ K l' := by
  obtain ⟨ω, h⟩ := h
  obtain ⟨cs, h1, h2⟩ := h.reads hx hk hl
  obtain ⟨l', e1, e2, e3⟩ := cutOff_sound h1 hK
  refine ⟨l', (cs.drop o.val).take n, by simp; omega, fun j c hc => ?_, e1, e3⟩
  have hj : j < n := by
    have := (List.getElem?_eq_some_iff.1 hc).1; simp at this; omega
  rw [drop_take_get _ _ _ _ hj] at hc
  rw [Nat.add_assoc]
  exact h2 _ _ hc

/-- The world with a block turned. -/
def putB (w : World) (b : Nat) (o : Obj) : World := { w with heap := w.heap.setIfInBounds b o }
theorem setCell_putB {w : World} {b j : Nat} {cs : List Value} {T : TypeId} {v : Value} (h : w.heap[b]? = some (.cells cs.toArray T (0, 0))) :
    w.setCell ⟨b, j, none⟩ v = putB w b (.cells (cs.set j v).toArray T (0, 0)) := by
  have hlt : b < w.heap.size := (Array.getElem?_eq_some_iff.1 h).1
  unfold World.setCell putB
  congr 1
  apply Array.ext_getElem?
  intro i
  rw [Array.getElem?_modify, Array.getElem?_setIfInBounds]
  split
  · rename_i e; subst e; rw [h]; simp
  · rfl
theorem putB_get {w : World} {b : Nat} {o : Obj} (h : b < w.heap.size) : (putB w b o).heap[b]? = some o := by simp [putB, h]
theorem putB_get_ne {w : World} {b i : Nat} {o : Obj} (h : i ≠ b) : (putB w b o).heap[i]? = w.heap[i]? := by
  unfold putB; simp only; rw [Array.getElem?_setIfInBounds_ne (Ne.symm h)]
theorem putB_putB {w : World} {b : Nat} {o o' : Obj} : putB (putB w b o) b o' = putB w b o' := by
  unfold putB; congr 1; simp only
  apply Array.ext_getElem?
  intro i
  rw [Array.getElem?_setIfInBounds, Array.getElem?_setIfInBounds, Array.getElem?_setIfInBounds]
  split <;> simp_all
theorem putB_size {w : World} {b : Nat} {o : Obj} : (putB w b o).heap.size = w.heap.size := by simp [putB]
theorem Kept.putB (w : World) (b : Nat) (o : Obj) : Kept w (Vex.putB w b o) := ⟨rfl, rfl, rfl, by rw [putB_size]; exact Nat.le_refl _⟩

theorem oneC_oneCell' {v : Value} (h : oneC v = true) : v.oneCell' = true := by cases v <;> simp_all [oneC, Value.oneCell']

def setMany (cs : List Value) (off : Nat) : List Value → List Value
  | [] => cs
  | v :: r => setMany (cs.set off v) (off + 1) r
theorem setMany_length (cs : List Value) (off : Nat) (vs : List Value) : (setMany cs off vs).length = cs.length := by
  induction vs generalizing cs off with
  | nil => rfl
  | cons v r ih => simp [setMany, ih]
theorem setMany_eq : ∀ (vs cs : List Value) (off : Nat), off + vs.length ≤ cs.length → setMany cs off vs = cs.take off ++ (vs ++ cs.drop (off + vs.length))
  | [], cs, off, _ => by simp [setMany]
  | v :: r, cs, off, h => by
    simp only [List.length_cons] at h
    rw [setMany, setMany_eq r (cs.set off v) (off + 1) (by simp; omega)]
    rw [List.take_add_one]
    simp only [List.take_set_of_le (Nat.le_refl off), List.getElem?_set_self (show off < cs.length by omega), Option.toList_some, List.length_cons]
    rw [List.drop_set_of_lt (by omega), show off + 1 + r.length = off + (r.length + 1) by omega]
    simp

theorem run_storeCells {P : Program} {b : Nat} {T : TypeId} : ∀ (vs : List Value) (w : World) (cs : List Value) (off i : Nat), w.heap[b]? = some (.cells cs.toArray T (0, 0)) →
    off + i + vs.length ≤ cs.length → (∀ v ∈ vs, oneC v = true) →
    (storeCells ⟨b, off, none⟩ vs i).run P w = .ok () (if vs = [] then w else putB w b (.cells (setMany cs (off + i) vs).toArray T (0, 0)))
  | [], w, cs, off, i, h, hl, hv => by simp [storeCells]
  | v :: r, w, cs, off, i, h, hl, hv => by
    simp only [List.length_cons] at hl
    have hlt : b < w.heap.size := (Array.getElem?_eq_some_iff.1 h).1
    have hc : w.cell? ⟨b, off + i, none⟩ = some (cs[off + i]'(by omega)) := by rw [cell_of h]; simp
    have hf : w.frozen? ⟨b, off + i, none⟩ = false := by simp [World.frozen?, h]
    unfold storeCells
    rw [Sem.run_bind, addr_add, run_store _ _ _ _ _ (oneC_oneCell' (hv v (by simp)))]
    simp only [hc, hf, Bool.false_eq_true, if_false, Result.andThen_ok]
    rw [setCell_putB h]
    rw [run_storeCells r _ (cs.set (off + i) v) off (i + 1) (putB_get hlt) (by simp; omega) (fun u hu => hv u (by simp [hu]))]
    simp only [List.cons_ne_nil, if_false]
    rw [setMany]
    split
    · rename_i e; subst e; rfl
    · rw [putB_putB, Nat.add_assoc]

mutual
theorem DenC.ones {ρ : Rho} {x : SV} {cs : List Value} (h : DenC ρ x cs) : ∀ (j : Nat) (c : Value), cs[j]? = some c → oneC c = true :=
  match h with
  | .one c h h1 hx => fun j c' hc => by
      subst h
      cases j with
      | zero => simp at hc; rw [← hc]; exact h1
      | succ j => simp at hc
  | .ints hm h => fun j c hc => by
      subst h
      rw [List.getElem?_map] at hc
      cases hz : (‹List Int›)[j]? with
      | none => simp [hz] at hc
      | some z => simp [hz] at hc; rw [← hc]; rfl
  | .junk hm h => fun j c hc => h c (List.mem_of_getElem? hc)
  | @DenC.rows _ w m f cs hm h => fun j c hc => by
      have hlt : j < m.val * w := by rw [← hm]; exact (List.getElem?_eq_some_iff.1 hc).1
      obtain ⟨e1, e2, e3⟩ := rows_div hlt
      refine DenL.ones (h _ e1) (j % w) c ?_
      rw [drop_take_get _ _ _ _ e2, e3]; exact hc
theorem DenL.ones {ρ : Rho} {x : List SV} {cs : List Value} (h : DenL ρ x cs) : ∀ (j : Nat) (c : Value), cs[j]? = some c → oneC c = true :=
  match h with
  | .nil h => fun j c hc => by subst h; simp at hc
  | .cons c1 c2 h h1 h2 => fun j c hc => by
      subst h
      rcases Nat.lt_or_ge j c1.length with hj | hj
      · rw [List.getElem?_append_left hj] at hc; exact DenC.ones h1 j c hc
      · rw [List.getElem?_append_right hj] at hc; exact DenL.ones h2 _ c hc
end
theorem DenL.ones_mem {ρ : Rho} {x : List SV} {cs : List Value} (h : DenL ρ x cs) : ∀ c ∈ cs, oneC c = true := fun c hc => by
  obtain ⟨j, hj⟩ := List.getElem?_of_mem hc
  exact h.ones j c hj

/-- A store of whatever value. -/
def storeL (l : List SV) (o : Off) (n : Nat) (v : SV) (K : List SV → Prop) : Prop :=
  match v with
  | .agg new => match o with
    | .at m => match setAt l m n new with
      | some l' => K l'
      | none => False
    | .row .. => False
  | .tup _ => False
  | .raw _ => False
  | .ints .. => False
  | .rows .. => False
  | .junk .. => False
  | v => if n = 1 then putOff l o v K else False

theorem HSat.cellsAt {ρ : Rho} {hp : List Blk} {w : World} (h : HSat ρ hp w) {x b o0 : Nat} {T : TypeId} {l : List SV}
    (hx : ρ[x]? = some (some (b, o0))) (hk : hp[x]? = some (.cells T l)) :
    ∃ cs, o0 = 0 ∧ w.heap[b]? = some (.cells cs.toArray T (0, 0)) ∧ DenL ρ l cs ∧
      ∀ cs' l', DenL ρ l' cs' → HSat ρ (hp.set x (.cells T l')) (putB w b (.cells cs'.toArray T (0, 0))) := by
  obtain ⟨ω, h⟩ := h
  have hlt : x < ρ.length := (List.getElem?_eq_some_iff.1 hx).1
  obtain ⟨o, ho⟩ : ∃ o, ω[x]? = some o := ⟨ω[x]'(by rw [h.lenω]; exact hlt), by simp⟩
  obtain ⟨cs, e4, ⟨_, e1, _⟩ | ⟨b', e1, e2, e3⟩⟩ := h.sat x _ o _ hx ho hk
  · cases e1
  simp only [Option.some.injEq, Prod.mk.injEq] at e1
  obtain ⟨rfl, rfl⟩ := e1
  have hb : b < w.heap.size := (Array.getElem?_eq_some_iff.1 e3).1
  refine ⟨cs, rfl, e3, e4, fun cs' l' hd => ⟨ω, h.turn hx ho ⟨cs', hd, .inr ⟨b, rfl, e2, putB_get hb⟩⟩ (by rw [putB_size]; exact Nat.le_refl _) fun i _ hi => putB_get_ne ?_⟩⟩
  rintro rfl
  rw [e2] at hi; simp at hi

theorem den_cells_one {ρ : Rho} {v : SV} {c : Value} (h : Den ρ v c) (hc : oneC c = true) : c.cells.toList = [c] := by cases c <;> simp_all [Value.cells, oneC]

/-- What a store leaves. -/
def stored (b off : Nat) (vs : List Value) (x : World) : World :=
  match x.heap[b]? with
  | some (.cells arr T fz) => putB x b (.cells (setMany arr.toList off vs).toArray T fz)
  | _ => x
theorem run_stored {P : Program} {b off : Nat} {T : TypeId} {vs cs : List Value} {x : World} (h : x.heap[b]? = some (.cells cs.toArray T (0, 0))) (hl : off + vs.length ≤ cs.length) (hv : ∀ v ∈ vs, oneC v = true) :
    (storeCells ⟨b, off, none⟩ vs).run P x = .ok () (stored b off vs x) := by
  rw [run_storeCells vs x cs off 0 h (by omega) hv]
  unfold stored
  rw [h]
  congr 1
  split
  · rename_i e; subst e
    simp only [setMany]
    unfold putB
    have e2 : x.heap.setIfInBounds b (.cells cs.toArray T (0, 0)) = x.heap := by
      apply Array.ext_getElem?
      intro i
      rw [Array.getElem?_setIfInBounds]
      split
      · rename_i e; subst e
        rw [if_pos (Array.getElem?_eq_some_iff.1 h).1, h]
      · rfl
    have e3 : cs.toArray.toList.toArray = cs.toArray := by simp
    rw [e3, e2]
  · simp

theorem HSat.storeL {ρ : Rho} {hp : List Blk} {w : World} (h : HSat ρ hp w) {x b o0 n : Nat} {T : TypeId} {l : List SV} {o : Off} {v : SV} {c : Value} {K : List SV → Prop}
    (hx : ρ[x]? = some (some (b, o0))) (hk : hp[x]? = some (.cells T l)) (hv : Den ρ v c) (hn : c.cells.size = n) (hK : Vex.storeL l o n v K) :
    ∃ (l' : List SV) (cs : List Value), o0 = 0 ∧ w.heap[b]? = some (.cells cs.toArray T (0, 0)) ∧ o.val + c.cells.toList.length ≤ cs.length ∧ (∀ u ∈ c.cells.toList, oneC u = true) ∧
      HSat ρ (hp.set x (.cells T l')) (stored b o.val c.cells.toList w) ∧ K l' := by
  obtain ⟨cs, rfl, e3, e4, e5⟩ := h.cellsAt hx hk
  have est : ∀ off vs, stored b off vs w = putB w b (.cells (setMany cs off vs).toArray T (0, 0)) := by
    intro off vs; unfold stored; rw [e3]
  have hone : ∀ (hs : single v = true) (hc : oneC c = true), (if n = 1 then putOff l o v K else False) →
      ∃ (l' : List SV) (cs : List Value), 0 = 0 ∧ w.heap[b]? = some (.cells (List.toArray cs) T (0, 0)) ∧ o.val + c.cells.toList.length ≤ cs.length ∧ (∀ u ∈ c.cells.toList, oneC u = true) ∧
      HSat ρ (hp.set x (.cells T l')) (stored b o.val c.cells.toList w) ∧ K l' := by
    intro hs hc hK
    split at hK
    · obtain ⟨l', g1, g2, g3⟩ := putOff_sound hv hc hs e4 hK
      rw [den_cells_one hv hc]
      refine ⟨l', cs, rfl, e3, by simp; omega, by simpa using hc, ?_, g3⟩
      rw [est]; simpa [setMany] using e5 _ _ g1
    · exact hK.elim
  cases v with
  | agg new =>
    cases o with
    | row => exact (show False from hK).elim
    | «at» m =>
      have hK' : match setAt l m n new with | some l' => K l' | none => False := hK
      cases hv with
      | agg vs hc hl =>
        subst hc
        have hlen : vs.length = n := by simpa [Value.cells] using hn
        subst hlen
        split at hK'
        · rename_i l' hl'
          obtain ⟨g1, g2⟩ := setAt_sound e4 hl hl'
          refine ⟨l', cs, rfl, e3, by simpa [Value.cells, Off.val] using g2, by simpa [Value.cells] using hl.ones_mem, ?_, hK'⟩
          have := e5 _ _ (by rw [← setMany_eq vs cs m g2] at g1; exact g1)
          rw [est]
          simpa [Value.cells, Off.val] using this
        · exact hK'.elim
  | tup => exact (show False from hK).elim
  | raw => exact (show False from hK).elim
  | ints => exact (show False from hK).elim
  | rows => exact (show False from hK).elim
  | junk => exact (show False from hK).elim
  | i => exact hone rfl (by cases hv with | i h => subst h; rfl) hK
  | b => exact hone rfl (by cases hv with | b h => subst h; rfl) hK
  | str => exact hone rfl (by cases hv with | str h => subst h; rfl) hK
  | p => exact hone rfl (by cases hv with | p _ _ _ h => subst h; rfl) hK
  | nilp => exact hone rfl (by cases hv with | nilp h => subst h; rfl) hK
  | slc => exact hone rfl (by cases hv with | slc _ _ _ h => subst h; rfl) hK
  | nilslc => exact hone rfl (by cases hv with | nilslc h => subst h; rfl) hK
  | fn => exact hone rfl (by cases hv with | fn _ _ h _ _ => subst h; rfl) hK
  | nilfn => exact hone rfl (by cases hv with | nilfn h => subst h; rfl) hK
  | ifc => exact hone rfl (by cases hv with | ifc _ h _ => subst h; rfl) hK
  | nilifc => exact hone rfl (by cases hv with | nilifc h => subst h; rfl) hK
  | map => exact hone rfl (by cases hv with | map _ _ h => subst h; rfl) hK
  | nilmap => exact hone rfl (by cases hv with | nilmap h => subst h; rfl) hK
end
end Go.Vex
