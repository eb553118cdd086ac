/-
  Joined: V8 VA V9 VN V10 V11 V12 V14.
-/
import Derived.Test.YtafhmkedblpdlaaDoorZ1
import Derived.Laws.Append
import Derived.Laws.AppendOwn
import Derived.RangeFuncIn
import Derived.RangeFuncLeaves
import Derived.OrdersIn
import Derived.TacticsIn
import Derived.RangeFuncRecord
import Derived.Scope
import Derived.KernelRfl
set_option linter.unusedVariables false
set_option linter.unusedSimpArgs false
/-
  VEX, part 8: new slices; lengths; the evaluator of one operation, and that the model does as it says.
-/
section
namespace Go.Vex
noncomputable section

theorem range_mod {z : List Value} {m w : Nat} (hz : z.length = w) {j : Nat} (hj : j < m) :
    ((((Array.range (m * w)).map fun i => z.toArray[i % z.toArray.size]!).toList.drop (j * w)).take w) = z := by
  apply List.ext_getElem?
  intro i
  by_cases hi : i < w
  · rw [drop_take_get _ _ _ _ hi]
    have hlt : j * w + i < m * w := by
      have : (j + 1) * w ≤ m * w := Nat.mul_le_mul_right _ hj
      rw [Nat.add_mul] at this; omega
    simp only [Array.toList_map, List.getElem?_map, Array.toList_range, List.getElem?_range hlt, Option.map_some, List.size_toArray, hz]
    have : (j * w + i) % w = i := by rw [Nat.mul_comm, Nat.mul_add_mod]; exact Nat.mod_eq_of_lt hi
    rw [this]
    simp [hz, hi]
  · rw [List.getElem?_eq_none (by simp; omega), List.getElem?_eq_none (by omega)]

theorem zero_rows {ρ : Rho} {l : List SV} {z : List Value} {m : S Nat} {w : Nat} (hd : DenL ρ l z) (hz : z.length = w) :
    DenC ρ (.rows w m (fun _ => l)) ((Array.range (m.val * w)).map fun i => z.toArray[i % z.toArray.size]!).toList :=
  .rows (by simp) fun j hj => by rw [range_mod hz hj]; exact hd

def makeElems (te : TI) (cap : S Nat) : List SV :=
  match te.kind with
  | .int k => match te.zero with
    | [.i k' (.lit 0)] => if k' = k then (if te.size = 1 then [.ints k cap (zerosI cap.val)] else [.rows te.size cap fun _ => te.zero]) else [.rows te.size cap fun _ => te.zero]
    | _ => [.rows te.size cap fun _ => te.zero]
  | _ => [.rows te.size cap fun _ => te.zero]

theorem makeElems_sound {ρ : Rho} {te : TI} {z : List Value} (hd : DenL ρ te.zero z) (hz : z.length = te.size) (cap : S Nat) :
    DenL ρ (makeElems te cap) ((Array.range (cap.val * te.size)).map fun i => z.toArray[i % z.toArray.size]!).toList := by
  have base : DenL ρ [.rows te.size cap fun _ => te.zero] ((Array.range (cap.val * te.size)).map fun i => z.toArray[i % z.toArray.size]!).toList :=
    .cons _ [] (by simp) (zero_rows hd hz) (.nil rfl)
  unfold makeElems
  split
  · split
    · rename_i k' hz'
      split
      · split
        · rename_i e1 e2
          refine .cons _ [] (List.append_nil _).symm (.ints (by rw [zerosI_eq]; simp) ?_) (.nil rfl)
          rw [hz'] at hd
          obtain ⟨c1, c2, rfl, g1, g2⟩ := hd.of_cons
          obtain ⟨c, rfl, _, g3⟩ := g1.single rfl
          rw [g2.of_nil] at hz ⊢
          cases g3 with
          | i g3 =>
            subst g3
            rw [zerosI_eq]
            apply List.ext_getElem?
            intro i
            by_cases hi : i < cap.val
            · simp [e2, hi, e1, Nat.mod_one]
            · rw [List.getElem?_eq_none (by simp [e2]; omega), List.getElem?_eq_none (by simp; omega)]
        · exact base
      · exact base
    · exact base
  · exact base

theorem wrap_i64 {n : Int} (h0 : 0 ≤ n) (h1 : n ≤ 281474976710656) : IntKind.i64.wrap n = n := by
  unfold IntKind.wrap
  simp [IntKind.bits, IntKind.signed]
  omega

def nInt (n : S Int) : S Nat :=
  match n with
  | .lit n => .lit n.toNat
  | .ex n => .ex (toN n)
theorem nInt_val (n : S Int) : (nInt n).val = n.val.toNat := by unfold nInt; split <;> simp [toN_eq]

def makeSliceS (T : Tree) (t : Nat) (len cap : SV) (hp : List Blk) (K : SV → List Blk → Prop) : Prop :=
  match T.find t with
  | none => False
  | some ti => match ti.kind with
    | .slice e => match T.find e with
      | none => False
      | some te => match len with
        | .i _ l => match cap with
          | .i _ c => if 1 ≤ te.bytes then (if sizeL te.zero = some te.size then (mkOk l.val c.val te.bytes ∧
              K (.slc hp.length 0 te.size (.lit 0) (nInt l) (nInt c)) (hp ++ [.cells e (makeElems te (nInt c))])) else False) else False
          | _ => False
        | _ => False
    | _ => False

theorem Runs.newSlice {P : Program} {s : Sem Next} {ρ : Rho} {w : World} {K : SV → List Blk → Prop} {hp : List Blk} {l : List SV} {cs : List Value} {T : TypeId} {ws : Nat} {len cap : S Nat}
    (h : HSat ρ hp w) (hd : DenL ρ l cs) (hr : ∀ x, s.run P x = .ok (.value (.slice (some ⟨x.heap.size, 0, none⟩) len.val cap.val)) (x.alloc (.cells cs.toArray T)))
    (hK : K (.slc hp.length 0 ws (.lit 0) len cap) (hp ++ [.cells T l])) : Runs P s ρ w false .new K :=
  Runs.det (fun x _ => .inl (hr x)) (newB_inv w.heap.size (.cells cs.toArray T) (fun n => .slice (some ⟨n, 0, none⟩) len.val cap.val)) (Nat.le_refl _) ⟨.cells cs.toArray T, fun n => .slice (some ⟨n, 0, none⟩) len.val cap.val, rfl⟩ (Ext.push _ _)
    (.slc (some (w.heap.size, 0)) (by rw [h.len]; simp) (by simp) (by simp)) (h.newCells T hd) (Kept.alloc _ _) (by simp) hK

theorem makeSliceS_sound {P : Program} {T : Tree} (hT : TOk P T) {t : Nat} {ρ : Rho} {hp : List Blk} {w : World} (h : HSat ρ hp w) {len cap : SV} {u v : Value} {K : SV → List Blk → Prop}
    (hl : Den ρ len u) (hc : Den ρ cap v) (hK : makeSliceS T t len cap hp K) : Runs P (valS (Instr.makeSlice t u v)) ρ w false .new K := by
  unfold makeSliceS at hK
  split at hK
  · exact hK.elim
  · rename_i ti hti
    obtain ⟨d, h1, h2⟩ := (hT t ti hti).under
    split at hK
    · rename_i e hk
      rw [hk] at h2
      simp only [kindOk] at h2
      subst h2
      split at hK
      · exact hK.elim
      · rename_i te hte
        obtain ⟨z, hz, hzd⟩ := (hT e te hte).zeroV
        obtain ⟨i, hi1, hi2, hi3⟩ := (hT e te hte).info
        split at hK
        · rename_i k l
          split at hK
          · rename_i k' c
            split at hK
            · rename_i hby
              split at hK
              · rename_i hsz
                obtain ⟨hok, hK⟩ := hK
                rw [mkOk_eq] at hok
                obtain ⟨g1, g2, g3⟩ := hok
                have gc : c.val ≤ 281474976710656 := by
                  have : (1 : Int) * c.val ≤ te.bytes * c.val := Int.mul_le_mul_of_nonneg_right (by omega) (by omega)
                  omega
                have hlen := sizeL_len (hzd.weak (ρ := ρ)) hsz
                cases hl with
                | i hl => cases hc with
                  | i hc =>
                    subst hl; subst hc
                    refine Runs.newSlice h (makeElems_sound hzd.weak hlen (nInt c)) (fun x => run_valS ?_) hK
                    unfold Instr.makeSlice
                    simp only [Sem.run_bind, h1 x, Result.andThen_ok, asInt, asIntOf, Sem.run_pure, run_typeInfo' hi1, wrap_i64 (show 0 ≤ c.val by omega) gc, wrap_i64 g1 (show l.val ≤ 281474976710656 by omega), hi3]
                    have c1 : (decide (c.val < 0) || decide ((te.bytes : Int) * c.val > 2 ^ 48)) = false := by simp; omega
                    simp only [c1, Bool.false_or]
                    rw [if_neg (by simp; omega)]
                    simp only [Sem.run_bind, run_askRoom, Result.andThen_ok, (hT e te hte).size x, nInt_val]
                    split
                    · rename_i hn
                      simp only [Sem.run_pure, Result.andThen_ok, newRow, Sem.run_bind, run_newObj, World.alloc_eq]
                      have e0 : ∀ f : Nat → Value, ((Array.range (c.val.toNat * te.size)).map f) = #[] := by intro f; rw [hn]; apply Array.ext'; simp
                      simp only [e0]
                    · simp only [Sem.run_bind, hz x, Sem.run_pure, Result.andThen_ok, newRow, run_newObj, World.alloc_eq]
              · exact hK.elim
            · exact hK.elim
          · exact hK.elim
        · exact hK.elim
    · exact hK.elim

/-- n copies of a list. -/
def repL (l : List SV) : Nat → List SV
  | 0 => []
  | n + 1 => l ++ repL l n
theorem repL_sound {ρ : Rho} {l : List SV} {z : List Value} (hd : DenL ρ l z) (n : Nat) :
    DenL ρ (repL l n) ((Array.range (n * z.length)).map fun i => z.toArray[i % z.toArray.size]!).toList := by
  induction n with
  | zero => exact .nil (by simp)
  | succ n ih =>
    have : ((Array.range ((n + 1) * z.length)).map fun i => z.toArray[i % z.toArray.size]!).toList = z ++ ((Array.range (n * z.length)).map fun i => z.toArray[i % z.toArray.size]!).toList := by
      apply List.ext_getElem?
      intro i
      rcases Nat.lt_or_ge i z.length with hi | hi
      · rw [List.getElem?_append_left hi]
        have hlt : i < (n + 1) * z.length := by rw [Nat.add_mul]; omega
        simp only [Array.toList_map, List.getElem?_map, Array.toList_range, List.getElem?_range hlt, Option.map_some, List.size_toArray, Nat.mod_eq_of_lt hi]
        simp [hi]
      · rw [List.getElem?_append_right hi]
        by_cases hlt : i < (n + 1) * z.length
        · have hlt' : i - z.length < n * z.length := by rw [Nat.add_mul] at hlt; omega
          simp only [Array.toList_map, List.getElem?_map, Array.toList_range, List.getElem?_range hlt, List.getElem?_range hlt', Option.map_some, List.size_toArray]
          rw [Nat.mod_eq_sub_mod hi]
        · rw [List.getElem?_eq_none (by simp; omega), List.getElem?_eq_none (by simp; rw [Nat.add_mul] at hlt; omega)]
    rw [this]
    exact hd.append ih

def buildSliceS (T : Tree) (t len : Nat) (parts : List (Nat × SV)) (hp : List Blk) (K : SV → List Blk → Prop) : Prop :=
  match T.find t with
  | none => False
  | some ti => match ti.kind with
    | .slice e => match T.find e with
      | none => False
      | some te => if len * te.size ≤ 16777216 then (if len * te.size = 0 then False else (if sizeL te.zero = some te.size then
          (match fillS (placeS T (.array len e)) (repL te.zero len) parts with
            | some l => K (.slc hp.length 0 te.size (.lit 0) (.lit len) (.lit len)) (hp ++ [.cells e l])
            | none => False) else False)) else False
    | _ => False
theorem buildSliceS_sound {P : Program} {T : Tree} (hT : TOk P T) {t len : Nat} {ρ : Rho} {hp : List Blk} {w : World} (h : HSat ρ hp w) {parts : List (Nat × SV)} {cs : List (Nat × Value)} {K : SV → List Blk → Prop}
    (hpt : DenP ρ parts cs) (hK : buildSliceS T t len parts hp K) : Runs P (valS (Instr.buildSlice t len cs.toArray)) ρ w false .new K := by
  unfold buildSliceS at hK
  split at hK
  · exact hK.elim
  · rename_i ti hti
    obtain ⟨d, h1, h2⟩ := (hT t ti hti).under
    split at hK
    · rename_i e hk
      rw [hk] at h2
      simp only [kindOk] at h2
      subst h2
      split at hK
      · exact hK.elim
      · rename_i te hte
        obtain ⟨z, hz, hzd⟩ := (hT e te hte).zeroV
        split at hK
        · rename_i hbig
          split at hK
          · exact hK.elim
          · rename_i hne
            split at hK
            · rename_i hsz
              split at hK
              · rename_i l hl
                have hlen := sizeL_len (hzd.weak (ρ := ρ)) hsz
                have hpl : ∀ i r, placeS T (.array len e) i = some r → (fun i => some (i * te.size, te.size)) i = some r := by
                  intro i r hr; simpa [placeS, hte] using hr
                have hd0 := repL_sound (hzd.weak (ρ := ρ)) len
                rw [hlen] at hd0
                obtain ⟨cells', f1, f2, f3⟩ := fillS_sound hpl hpt hd0 hl
                refine Runs.newSlice h f2 (fun x => run_valS ?_) hK
                unfold Instr.buildSlice
                simp only [Sem.run_bind, h1 x, Result.andThen_ok, (hT e te hte).size x]
                rw [if_neg (by omega)]
                simp only [hne, if_false, Sem.run_bind, hz x, Result.andThen_ok, Sem.run_pure]
                have f1' : Instr.fill (fun i => some (i * te.size, te.size)) ((Array.range (len * te.size)).map fun x => z.cells[x % z.cells.size]!) cs = some cells' := by
                  have : z.cells.toList.toArray = z.cells := by simp
                  rw [this] at f1; exact f1
                rw [f1']
                simp [newRow]
              · exact hK.elim
            · exact hK.elim
        · exact hK.elim
    · exact hK.elim
#print axioms buildSliceS_sound
end
end Go.Vex
end

/-
  VEX, appends.
-/
section
namespace Go.Vex
noncomputable section

/-! ### Resources that go, and that move -/
theorem HSatO.move {ρ : Rho} {ω : List Own} {hp : List Blk} {w : World} (h : HSatO ρ ω hp w) {X : Nat} {r : Option (Nat × Nat)} {k : Blk} (hx : ρ[X]? = some r) (hk : hp[X]? = some k) :
    HSat (ρ ++ [r]) (hp.set X .gone ++ [k]) w := by
  have hlt : X < ρ.length := (List.getElem?_eq_some_iff.1 hx).1
  obtain ⟨o, ho⟩ : ∃ o, ω[X]? = some o := ⟨ω[X]'(by rw [h.lenω]; exact hlt), by simp⟩
  have hX : (ω.set X ⟨[], []⟩)[X]? = some ⟨[], []⟩ := List.getElem?_set_self (by rw [h.lenω]; exact hlt)
  have hne : ∀ y, y ≠ X → (ω.set X ⟨[], []⟩)[y]? = ω[y]? := fun y hy => List.getElem?_set_ne (Ne.symm hy)
  refine ⟨ω.set X ⟨[], []⟩ ++ [o], by simp [h.lenω], by simp [h.lenh], ?_, ?_, ?_⟩
  · intro y a o' k' h1 h2 h3
    rcases getElem?_snoc _ _ _ _ h1 with ⟨hy, h1'⟩ | ⟨hy, h1'⟩
    · rcases getElem?_snoc _ _ _ _ h2 with ⟨_, h2'⟩ | ⟨hy2, _⟩
      · rcases getElem?_snoc _ _ _ _ h3 with ⟨_, h3'⟩ | ⟨hy3, _⟩
        · by_cases e : y = X
          · subst e
            rw [hX] at h2'; cases h2'
            rw [List.getElem?_set_self (by rw [h.lenh]; exact hlt)] at h3'; cases h3'
            rfl
          · rw [hne y e] at h2'
            rw [List.getElem?_set_ne (Ne.symm e)] at h3'
            exact (h.sat y a o' k' h1' h2' h3').mono (Ext.push _ _)
        · exact absurd hy3 (by simp [h.lenh]; omega)
      · exact absurd hy2 (by simp [h.lenω]; omega)
    · subst h1'
      rcases getElem?_snoc _ _ _ _ h2 with ⟨hy2, _⟩ | ⟨_, h2'⟩
      · exact absurd hy2 (by simp [h.lenω]; omega)
      · rcases getElem?_snoc _ _ _ _ h3 with ⟨hy3, _⟩ | ⟨_, h3'⟩
        · exact absurd hy3 (by simp [h.lenh]; omega)
        · subst h2'; subst h3'
          exact (h.sat X _ _ _ hx ho hk).mono (Ext.push _ _)
  · intro x y ox oy hx' hy' b hb
    rcases getElem?_snoc _ _ _ _ hx' with ⟨lx, hx2⟩ | ⟨ex, hx2⟩
    · by_cases e : x = X
      · subst e; rw [hX] at hx2; cases hx2; simp at hb
      · rw [hne x e] at hx2
        rcases getElem?_snoc _ _ _ _ hy' with ⟨ly, hy2⟩ | ⟨ey, hy2⟩
        · by_cases e' : y = X
          · subst e'; rw [hX] at hy2; cases hy2; simp
          · rw [hne y e'] at hy2; exact h.dis x y ox oy hx2 hy2 b hb
        · rw [hy2]
          have := h.dis x X ox o hx2 ho b hb
          exact ⟨fun hb' => absurd (this.1 hb') e, this.2⟩
    · rw [hx2] at hb
      rcases getElem?_snoc _ _ _ _ hy' with ⟨ly, hy2⟩ | ⟨ey, hy2⟩
      · by_cases e' : y = X
        · subst e'; rw [hX] at hy2; cases hy2; simp
        · rw [hne y e'] at hy2
          have := h.dis X y o oy ho hy2 b hb
          exact ⟨fun hb' => absurd (this.1 hb').symm e', this.2⟩
      · rw [hy2]
        have := h.dis X X o o ho ho b hb
        exact ⟨fun _ => by omega, this.2⟩
  · intro x ox hx' b hb
    rcases getElem?_snoc _ _ _ _ hx' with ⟨lx, hx2⟩ | ⟨ex, hx2⟩
    · by_cases e : x = X
      · subst e; rw [hX] at hx2; cases hx2; simp at hb
      · rw [hne x e] at hx2; exact h.bnd x ox hx2 b hb
    · rw [hx2] at hb; exact h.bnd X o ho b hb
theorem HSat.move {ρ : Rho} {hp : List Blk} {w : World} (h : HSat ρ hp w) {X : Nat} {r : Option (Nat × Nat)} {k : Blk} (hx : ρ[X]? = some r) (hk : hp[X]? = some k) :
    HSat (ρ ++ [r]) (hp.set X .gone ++ [k]) w := let ⟨ω, h⟩ := h; h.move hx hk

theorem HSat.drop {ρ : Rho} {hp : List Blk} {w : World} (h : HSat ρ hp w) (X : Nat) : HSat ρ (hp.set X .gone) w := by
  obtain ⟨ω, h⟩ := h
  rcases Nat.lt_or_ge X hp.length with hlt | hge
  · have hX : (ω.set X ⟨[], []⟩)[X]? = some ⟨[], []⟩ := List.getElem?_set_self (by rw [h.lenω, ← h.lenh]; exact hlt)
    have hne : ∀ y, y ≠ X → (ω.set X ⟨[], []⟩)[y]? = ω[y]? := fun y hy => List.getElem?_set_ne (Ne.symm hy)
    refine ⟨ω.set X ⟨[], []⟩, by simp [h.lenω], by simp [h.lenh], ?_, ?_, ?_⟩
    · intro y a o' k' h1 h2 h3
      by_cases e : y = X
      · subst e
        rw [hX] at h2; cases h2
        rw [List.getElem?_set_self hlt] at h3; cases h3
        rfl
      · rw [hne y e] at h2
        rw [List.getElem?_set_ne (Ne.symm e)] at h3
        exact h.sat y a o' k' h1 h2 h3
    · intro x y ox oy hx' hy' b hb
      by_cases e : x = X
      · subst e; rw [hX] at hx'; cases hx'; simp at hb
      · rw [hne x e] at hx'
        by_cases e' : y = X
        · subst e'; rw [hX] at hy'; cases hy'; simp
        · rw [hne y e'] at hy'; exact h.dis x y ox oy hx' hy' b hb
    · intro x ox hx' b hb
      by_cases e : x = X
      · subst e; rw [hX] at hx'; cases hx'; simp at hb
      · rw [hne x e] at hx'; exact h.bnd x ox hx' b hb
  · rw [List.set_eq_of_length_le hge]; exact ⟨ω, h⟩

/-- A resource that is nothing: a nil slice's. -/
theorem HSat.newNil {ρ : Rho} {hp : List Blk} {w : World} (h : HSat ρ hp w) {T : TypeId} {l : List SV} (hd : DenL ρ l []) : HSat (ρ ++ [none]) (hp ++ [.cells T l]) w := by
  obtain ⟨ω, h⟩ := h
  refine ⟨ω ++ [⟨[], []⟩], by simp [h.lenω], by simp [h.lenh], ?_, ?_, ?_⟩
  · intro y a o' k' h1 h2 h3
    rcases getElem?_snoc _ _ _ _ h1 with ⟨hy, h1'⟩ | ⟨hy, h1'⟩
    · rcases getElem?_snoc _ _ _ _ h2 with ⟨_, h2'⟩ | ⟨hy2, _⟩
      · rcases getElem?_snoc _ _ _ _ h3 with ⟨_, h3'⟩ | ⟨hy3, _⟩
        · exact (h.sat y a o' k' h1' h2' h3').mono (Ext.push _ _)
        · exact absurd hy3 (by rw [h.lenh]; omega)
      · exact absurd hy2 (by rw [h.lenω]; omega)
    · subst h1'
      rcases getElem?_snoc _ _ _ _ h2 with ⟨hy2, _⟩ | ⟨_, h2'⟩
      · exact absurd hy2 (by rw [h.lenω]; omega)
      · rcases getElem?_snoc _ _ _ _ h3 with ⟨hy3, _⟩ | ⟨_, h3'⟩
        · exact absurd hy3 (by rw [h.lenh]; omega)
        · subst h2'; subst h3'
          exact ⟨[], hd.mono (Ext.push _ _), .inl ⟨rfl, rfl, rfl⟩⟩
  · intro x y ox oy hx' hy' b hb
    rcases getElem?_snoc _ _ _ _ hx' with ⟨lx, hx'⟩ | ⟨ex, hx'⟩
    · rcases getElem?_snoc _ _ _ _ hy' with ⟨ly, hy'⟩ | ⟨ey, hy'⟩
      · exact h.dis x y ox oy hx' hy' b hb
      · subst hy'; simp
    · subst hx'; simp at hb
  · intro x ox hx' b hb
    rcases getElem?_snoc _ _ _ _ hx' with ⟨lx, hx'⟩ | ⟨ex, hx'⟩
    · exact h.bnd x ox hx' b hb
    · subst hx'; simp at hb

/-! ### Rows of elements -/
inductive Cont where
  | none
  | ints (k : IntKind) (m : S Nat) (zs : List Int)
  | rows (m : S Nat) (f : Nat → List SV)
def Cont.list (w : Nat) : Cont → List SV
  | .none => []
  | .ints k m zs => [.ints k m zs]
  | .rows m f => [.rows w m f]
def Cont.len : Cont → S Nat
  | .none => .lit 0
  | .ints _ m _ => m
  | .rows m _ => m
/-- w: how many cells an element has. -/
def Cont.ok (w : Nat) : Cont → Prop
  | .ints .. => w = 1
  | _ => True
theorem Cont.size {w : Nat} {c : Cont} (h : c.ok w) {ρ : Rho} {cs : List Value} (hd : DenL ρ (c.list w) cs) : cs.length = c.len.val * w := by
  cases c with
  | none => rw [Cont.list] at hd; rw [hd.of_nil]; simp [Cont.len]
  | ints k m zs =>
    obtain ⟨c1, c2, rfl, h1, h2⟩ := hd.of_cons
    rw [h2.of_nil]
    obtain ⟨e1, rfl⟩ := h1.of_ints
    have : w = 1 := h
    subst this
    simp [Cont.len, e1]
  | rows m f =>
    obtain ⟨c1, c2, rfl, h1, h2⟩ := hd.of_cons
    rw [h2.of_nil]
    have := h1.of_rows.1
    simpa [Cont.len] using this

def joinC (a b : Cont) (K : Cont → Prop) : Prop :=
  match a with
  | .none => K b
  | .ints k m zs => match b with
    | .none => K a
    | .ints k' n ys => if k = k' then K (.ints k (sAddN m n) (appI zs ys)) else False
    | .rows .. => False
  | .rows m f => match b with
    | .none => K a
    | .rows n g => K (.rows (sAddN m n) (jn f g m.val))
    | .ints .. => False

theorem joinC_sound {w : Nat} {a b : Cont} {K : Cont → Prop} (h : joinC a b K) (ha : a.ok w) (hb : b.ok w) {ρ : Rho} {xs ys : List Value} (hx : DenL ρ (a.list w) xs) (hy : DenL ρ (b.list w) ys) :
    ∃ c, c.ok w ∧ c.len.val = a.len.val + b.len.val ∧ DenL ρ (c.list w) (xs ++ ys) ∧ K c := by
  cases a with
  | none => rw [Cont.list] at hx; rw [hx.of_nil]; exact ⟨b, hb, by simp [Cont.len], hy, h⟩
  | ints k m zs =>
    cases b with
    | none => rw [Cont.list] at hy; rw [hy.of_nil]; exact ⟨_, ha, by simp [Cont.len], by simpa using hx, h⟩
    | ints k' n us =>
      unfold joinC at h
      simp only at h
      split at h
      · rename_i e; subst e
        refine ⟨.ints k (sAddN m n) (appI zs us), ha, by simp [Cont.len, sAddN_val], ?_, h⟩
        obtain ⟨c1, c2, rfl, h1, h2⟩ := hx.of_cons
        obtain ⟨d1, d2, rfl, h3, h4⟩ := hy.of_cons
        rw [h2.of_nil, h4.of_nil]
        obtain ⟨e1, rfl⟩ := h1.of_ints
        obtain ⟨e2, rfl⟩ := h3.of_ints
        refine .cons _ [] (List.append_nil _).symm (.ints ?_ ?_) (.nil rfl)
        · rw [appI_eq, sAddN_val]; simp [e1, e2]
        · rw [appI_eq]; simp
      · exact h.elim
    | rows => exact h.elim
  | rows m f =>
    cases b with
    | none => rw [Cont.list] at hy; rw [hy.of_nil]; exact ⟨_, ha, by simp [Cont.len], by simpa using hx, h⟩
    | ints => exact h.elim
    | rows n g =>
      refine ⟨.rows (sAddN m n) (jn f g m.val), trivial, by simp [Cont.len, sAddN_val], ?_, h⟩
      obtain ⟨c1, c2, rfl, h1, h2⟩ := hx.of_cons
      obtain ⟨d1, d2, rfl, h3, h4⟩ := hy.of_cons
      rw [h2.of_nil, h4.of_nil]
      obtain ⟨e1, r1⟩ := h1.of_rows
      obtain ⟨e2, r2⟩ := h3.of_rows
      refine .cons _ [] (List.append_nil _).symm (.rows ?_ fun j hj => ?_) (.nil rfl)
      · simp [e1, e2, sAddN_val, Nat.add_mul]
      · simp only [List.append_nil]
        rw [jn_eq]
        simp only
        rw [sAddN_val] at hj
        split
        · rename_i hlt
          have := r1 j hlt
          have hle : (j + 1) * w ≤ m.val * w := Nat.mul_le_mul_right _ hlt
          rw [Nat.add_mul] at hle
          rw [List.drop_append_of_le_length (by omega), List.take_append_of_le_length (by simp; omega)]
          exact this
        · rename_i hge
          have := r2 (j - m.val) (by omega)
          have e3 : j * w = c1.length + (j - m.val) * w := by rw [e1, ← Nat.add_mul]; congr 1; omega
          rw [e3, List.drop_append, List.drop_eq_nil_of_le (by omega), List.nil_append]
          rw [show c1.length + (j - m.val) * w - c1.length = (j - m.val) * w by omega]
          exact this

theorem HSat.readsNil {ρ : Rho} {hp : List Blk} {w : World} (h : HSat ρ hp w) {x : Nat} {k : Blk} {l : List SV}
    (hx : ρ[x]? = some none) (hk : hp[x]? = some k) (hl : blkCells k = some l) : DenL ρ l [] := by
  obtain ⟨ω, h⟩ := h
  have hlt : x < ρ.length := (List.getElem?_eq_some_iff.1 hx).1
  obtain ⟨o, ho⟩ : ∃ o, ω[x]? = some o := ⟨ω[x]'(by rw [h.lenω]; exact hlt), by simp⟩
  have hs := h.sat x _ o k hx ho hk
  cases k <;> simp only [blkCells, Option.some.injEq, reduceCtorEq] at hl
  case cells T l' =>
    subst hl
    obtain ⟨cs, e4, ⟨e, _⟩ | ⟨b', e1, e2, e3⟩⟩ := hs
    · subst e; exact e4
    · cases e1
  case ro l' =>
    subst hl
    obtain ⟨cs, e1, e2⟩ := hs
    rcases e2 with ⟨rfl, _⟩ | ⟨b', o', e2, rfl, e4⟩
    · exact e1
    · cases e2
  case glob g l' =>
    subst hl
    obtain ⟨cs, arr, T, fz, e1, e2, rfl, e4, e5⟩ := hs
    cases e2

/-- What is appended: its elements can be read. -/
structure Src (w : Nat) (c : Cont) (v : Value) (ys : List Value) (x : World) : Prop where
  out : (v = .slice none 0 0 ∧ ys = [] ∧ c.len.val = 0) ∨ ∃ b off cp, v = .slice (some ⟨b, off, none⟩) c.len.val cp ∧ ∀ (j : Nat) (u : Value), ys[j]? = some u → x.cell? ⟨b, off + j, none⟩ = some u

def allSingle : List SV → Bool
  | [] => true
  | v :: r => single v && allSingle r

def srcS (w : Nat) (hp : List Blk) (y : SV) (K : Cont → Prop) : Prop :=
  match y with
  | .nilslc => K .none
  | .slc Y l w' o n cap => if w' = w then (match hp[Y]? with
    | none => False
    | some k => match blkCells k with
      | none => False
      | some L => match o with
        | .ex _ => False
        | .lit o => match L with
          | .ints k' m zs :: _ => if w = 1 then (if l = 0 then (if o = 0 then eqN n.val m.val ∧ K (.ints k' n zs) else False) else False) else False
          | .rows w2 m f :: _ => if w2 = w then (if l = 0 then (if o = 0 then eqN n.val m.val ∧ K (.rows n f) else False) else False) else False
          | L => match n with
            | .ex _ => False
            | .lit n => match cut L (l + o * w) (n * w) with
              | none => False
              | some L' => if n = 1 then (match L' with
                  | [.i k' z] => if w = 1 then K (.ints k' (.lit 1) [z.val]) else K (.rows (.lit 1) fun _ => L')
                  | _ => K (.rows (.lit 1) fun _ => L')) else False) else False
  | _ => False

theorem denL_one_row {ρ : Rho} {L : List SV} {cs : List Value} {w : Nat} (h : DenL ρ L cs) (hl : cs.length = w) : DenL ρ [.rows w (.lit 1) fun _ => L] cs :=
  .cons cs [] (by simp) (.rows (by simpa using hl) fun j hj => by
    have : j = 0 := by simp at hj; omega
    subst this
    simp only [Nat.zero_mul, List.drop_zero]
    rw [List.take_of_length_le (by omega)]; exact h) (.nil rfl)

theorem srcS_sound {w : Nat} {hp : List Blk} {ρ : Rho} {x : World} (h : HSat ρ hp x) {y : SV} {v : Value} {K : Cont → Prop} (hv : Den ρ y v) (hK : srcS w hp y K) :
    ∃ c ys, c.ok w ∧ DenL ρ (c.list w) ys ∧ Src w c v ys x ∧ K c := by
  unfold srcS at hK
  split at hK
  · cases hv with | nilslc hv => exact ⟨.none, [], trivial, .nil rfl, ⟨.inl ⟨hv, rfl, rfl⟩⟩, hK⟩
  · rename_i Y l w' o n cap
    split at hK
    · rename_i e; subst e
      split at hK
      · exact hK.elim
      · rename_i k hk
        split at hK
        · exact hK.elim
        · rename_i L hL
          split at hK
          · exact hK.elim
          · rename_i o
            cases hv with
            | slc r hx hn hv =>
              -- what can be read of it
              have rd : ∀ (b o0 : Nat), r = some (b, o0) → ∃ cs, DenL ρ L cs ∧ ∀ j c, cs[j]? = some c → x.cell? ⟨b, o0 + j, none⟩ = some c := by
                intro b o0 e; subst e
                obtain ⟨ω, h⟩ := h
                exact h.reads hx hk hL
              have whole : ∀ (c : Cont), (∀ cs, DenL ρ L cs → ∃ c1 c2, cs = c1 ++ c2 ∧ DenL ρ (c.list w') c1) → c.ok w' → c.len = n → l = 0 → o = 0 → K c → ∃ c ys, c.ok w' ∧ DenL ρ (c.list w') ys ∧ Src w' c v ys x ∧ K c := by
                intro c hden hok hlen el eo hK
                cases r with
                | none =>
                  obtain ⟨c1, c2, e, h1⟩ := hden [] (h.readsNil hx hk hL)
                  have : c1 = [] := by simp at e; exact e.1
                  subst this
                  refine ⟨c, [], hok, h1, ⟨.inl ⟨?_, rfl, by rw [hlen]; exact (hn rfl).1⟩⟩, hK⟩
                  rw [hv, (hn rfl).1, (hn rfl).2]; rfl
                | some bo =>
                  obtain ⟨b, o0⟩ := bo
                  obtain ⟨cs, h1, h2⟩ := rd b o0 rfl
                  obtain ⟨c1, c2, rfl, h3⟩ := hden cs h1
                  refine ⟨c, c1, hok, h3, ⟨.inr ⟨b, o0, cap.val, ?_, fun j u hu => h2 j u ?_⟩⟩, hK⟩
                  · rw [hv, hlen]; subst el; subst eo; simp
                  · rw [List.getElem?_append_left (List.getElem?_eq_some_iff.1 hu).1]; exact hu
              split at hK
              · rename_i k' m zs tl
                split at hK
                · rename_i ew
                  split at hK
                  · rename_i el
                    split at hK
                    · rename_i eo
                      obtain ⟨e1, hK⟩ := hK
                      rw [eqN_eq] at e1
                      refine whole (.ints k' n zs) (fun cs hd => ?_) ew rfl el eo hK
                      obtain ⟨c1, c2, rfl, h1, h2⟩ := hd.of_cons
                      obtain ⟨g1, g2⟩ := h1.of_ints
                      exact ⟨c1, c2, rfl, .cons c1 [] (by simp) (.ints (by rw [g1, e1]) g2) (.nil rfl)⟩
                    · exact hK.elim
                  · exact hK.elim
                · exact hK.elim
              · rename_i w2 m f tl
                split at hK
                · rename_i ew
                  subst ew
                  split at hK
                  · rename_i el
                    split at hK
                    · rename_i eo
                      obtain ⟨e1, hK⟩ := hK
                      rw [eqN_eq] at e1
                      refine whole (.rows n f) (fun cs hd => ?_) trivial rfl el eo hK
                      obtain ⟨c1, c2, rfl, h1, h2⟩ := hd.of_cons
                      obtain ⟨g1, g2⟩ := h1.of_rows
                      exact ⟨c1, c2, rfl, .cons c1 [] (by simp) (.rows (by rw [g1, e1]) (by rw [e1]; exact g2)) (.nil rfl)⟩
                    · exact hK.elim
                  · exact hK.elim
                · exact hK.elim
              · split at hK
                · exact hK.elim
                · rename_i n
                  split at hK
                  · exact hK.elim
                  · rename_i L' hcut
                    split at hK
                    · rename_i en
                      subst en
                      have one : ∀ (c : Cont), (∀ cs, DenL ρ L' cs → cs.length = w' → DenL ρ (c.list w') cs) → c.ok w' → c.len = .lit 1 → K c → ∃ c ys, c.ok w' ∧ DenL ρ (c.list w') ys ∧ Src w' c v ys x ∧ K c := by
                        intro c hden hok hlen hK
                        cases r with
                        | none => have := (hn rfl).1; simp at this
                        | some bo =>
                          obtain ⟨b, o0⟩ := bo
                          obtain ⟨cs, h1, h2⟩ := rd b o0 rfl
                          obtain ⟨h3, h4⟩ := cut_sound h1 hcut
                          refine ⟨c, _, hok, hden _ h3 (by simp; omega), ⟨.inr ⟨b, o0 + (l + o * w'), cap.val, ?_, fun j u hu => ?_⟩⟩, hK⟩
                          · rw [hv, hlen]; simp
                          · have hj := (List.getElem?_eq_some_iff.1 hu).1
                            simp at hj
                            rw [drop_take_get _ _ _ _ (by omega)] at hu
                            rw [Nat.add_assoc]; exact h2 _ u hu
                      split at hK
                      · rename_i k' z
                        split at hK
                        · rename_i ew
                          refine one (.ints k' (.lit 1) [z.val]) (fun cs hd hl => ?_) ew rfl hK
                          obtain ⟨c1, c2, rfl, h1, h2⟩ := hd.of_cons
                          obtain ⟨c, rfl, _, h3⟩ := h1.single rfl
                          rw [h2.of_nil]
                          cases h3 with
                          | i h3 => subst h3; exact .cons _ [] rfl (.ints (by simp) (by simp)) (.nil rfl)
                        · exact one (.rows (.lit 1) fun _ => [.i k' z]) (fun cs hd hl => denL_one_row hd hl) trivial rfl hK
                      · exact one (.rows (.lit 1) fun _ => L') (fun cs hd hl => denL_one_row hd hl) trivial rfl hK
                    · exact hK.elim
    · exact hK.elim
  · exact hK.elim

/-- What is appended to. -/
inductive Dst (w e : Nat) (ρ : Rho) (hp : List Blk) (X : Option Nat) (c : Cont) (len cap : Nat) (u : Value) (xs : List Value) (x : World) : Prop
  | nil (h : u = .slice none 0 0) (hx : xs = []) (hl : len = 0) (hc : cap = 0)
  | row (X0 b : Nat) (L : List SV) (js : List Value) (hX : X = some X0) (hr : ρ[X0]? = some (some (b, 0))) (hk : hp[X0]? = some (.cells e L)) (h : u = .slice (some ⟨b, 0, none⟩) len cap)
      (hb : x.heap[b]? = some (.cells (xs ++ js).toArray e (0, 0))) (hxs : xs.length = len * w) (hjs : js.length = (cap - len) * w) (hlc : len ≤ cap) (ho : ∀ j ∈ js, oneC j = true)

def dstS (w e : Nat) (hp : List Blk) (y : SV) (K : Option Nat → Cont → S Nat → S Nat → Prop) : Prop :=
  match y with
  | .nilslc => K none .none (.lit 0) (.lit 0)
  | .slc X l w' o len cap => if w' = w then (if l = 0 then (match o with
    | .ex _ => False
    | .lit o => if o = 0 then (match hp[X]? with
      | some (.cells T L) => if T = e then (match L with
        | [.ints k m zs, .junk wj mj] => if w = 1 then (if wj = 1 then eqN m.val len.val ∧ eqN (addN m.val mj.val) cap.val ∧ K (some X) (.ints k len zs) len cap else False) else False
        | [.rows w2 m f, .junk wj mj] => if w2 = w then (if wj = w then eqN m.val len.val ∧ eqN (addN m.val mj.val) cap.val ∧ K (some X) (.rows len f) len cap else False) else False
        | [.junk wj mj] => if wj = w then eqN 0 len.val ∧ eqN mj.val cap.val ∧ K (some X) .none len cap else False
        | _ => False) else False
      | _ => False) else False) else False) else False
  | _ => False

theorem dstS_sound {w e : Nat} {hp : List Blk} {ρ : Rho} {x : World} (h : HSat ρ hp x) {y : SV} {u : Value} {K : Option Nat → Cont → S Nat → S Nat → Prop} (hv : Den ρ y u) (hK : dstS w e hp y K) :
    ∃ X c len cap xs, c.ok w ∧ DenL ρ (c.list w) xs ∧ c.len.val = len.val ∧ Dst w e ρ hp X c len.val cap.val u xs x ∧ K X c len cap := by
  unfold dstS at hK
  split at hK
  · cases hv with | nilslc hv => exact ⟨none, .none, .lit 0, .lit 0, [], trivial, .nil rfl, rfl, .nil hv rfl rfl rfl, hK⟩
  · rename_i X l w' o len cap
    split at hK
    · rename_i e1; subst e1
      split at hK
      · rename_i e2; subst e2
        split at hK
        · exact hK.elim
        · rename_i o
          split at hK
          · rename_i e3; subst e3
            split at hK
            · rename_i T L hk
              split at hK
              · rename_i e4; subst e4
                have key : ∀ (c : Cont) (mj : S Nat), c.ok w' → c.len.val = len.val → (∀ cs, DenL ρ L cs → ∃ xs js, cs = xs ++ js ∧ DenL ρ (c.list w') xs ∧ js.length = mj.val * w' ∧ ∀ j ∈ js, oneC j = true) → len.val + mj.val = cap.val →
                    K (some X) c len cap → ∃ X c len cap xs, c.ok w' ∧ DenL ρ (c.list w') xs ∧ c.len.val = len.val ∧ Dst w' T ρ hp X c len.val cap.val u xs x ∧ K X c len cap := by
                  intro c mj hok hlen hden hcap hK
                  cases hv with
                  | slc r hx hn hv =>
                    cases r with
                    | none =>
                      obtain ⟨xs, js, e5, h1, h2, h3⟩ := hden [] (h.readsNil hx hk rfl)
                      have e6 : xs = [] := by simp at e5; exact e5.1
                      subst e6
                      refine ⟨some X, c, len, cap, [], hok, h1, hlen, .nil ?_ rfl (hn rfl).1 (hn rfl).2, hK⟩
                      rw [hv, (hn rfl).1, (hn rfl).2]; rfl
                    | some bo =>
                      obtain ⟨b, o0⟩ := bo
                      obtain ⟨cs, rfl, g1, g2, g3⟩ := h.cellsAt hx hk
                      obtain ⟨xs, js, rfl, h1, h2, h3⟩ := hden cs g2
                      have hxs : xs.length = len.val * w' := by rw [Cont.size hok h1, hlen]
                      refine ⟨some X, c, len, cap, xs, hok, h1, hlen, .row X b L js rfl hx hk ?_ g1 hxs ?_ (by omega) h3, hK⟩
                      · rw [hv]; simp
                      · rw [h2]; congr 1; omega
                split at hK
                · rename_i k m zs wj mj
                  split at hK
                  · rename_i ew
                    split at hK
                    · rename_i ew'
                      obtain ⟨e5, e6, hK⟩ := hK
                      rw [eqN_eq] at e5 e6
                      rw [addN_eq] at e6
                      refine key (.ints k len zs) mj ew rfl (fun cs hd => ?_) (by omega) hK
                      obtain ⟨c1, c2, rfl, h1, h2⟩ := hd.of_cons
                      obtain ⟨d1, d2, rfl, h3, h4⟩ := h2.of_cons
                      obtain ⟨g1, g2⟩ := h1.of_ints
                      obtain ⟨g3, g4⟩ := h3.of_junk
                      rw [h4.of_nil]
                      exact ⟨c1, d1, by simp, .cons c1 [] (by simp) (.ints (by rw [g1, e5]) g2) (.nil rfl), by rw [g3, ew, ew'], g4⟩
                    · exact hK.elim
                  · exact hK.elim
                · rename_i w2 m f wj mj
                  split at hK
                  · rename_i ew
                    split at hK
                    · rename_i ew'
                      obtain ⟨e5, e6, hK⟩ := hK
                      rw [eqN_eq] at e5 e6
                      rw [addN_eq] at e6
                      subst ew
                      refine key (.rows len f) mj trivial rfl (fun cs hd => ?_) (by omega) hK
                      obtain ⟨c1, c2, rfl, h1, h2⟩ := hd.of_cons
                      obtain ⟨d1, d2, rfl, h3, h4⟩ := h2.of_cons
                      obtain ⟨g1, g2⟩ := h1.of_rows
                      obtain ⟨g3, g4⟩ := h3.of_junk
                      rw [h4.of_nil]
                      exact ⟨c1, d1, by simp, .cons c1 [] (by simp) (.rows (by rw [g1, e5]) (by rw [← e5]; exact g2)) (.nil rfl), by rw [g3, ew'], g4⟩
                    · exact hK.elim
                  · exact hK.elim
                · rename_i wj mj
                  split at hK
                  · rename_i ew'
                    obtain ⟨e5, e6, hK⟩ := hK
                    rw [eqN_eq] at e5 e6
                    refine key .none mj trivial e5 (fun cs hd => ?_) (by omega) hK
                    obtain ⟨d1, d2, rfl, h3, h4⟩ := hd.of_cons
                    obtain ⟨g3, g4⟩ := h3.of_junk
                    rw [h4.of_nil]
                    exact ⟨[], d1, by simp, .nil rfl, by rw [g3, ew'], g4⟩
                  · exact hK.elim
                · exact hK.elim
              · exact hK.elim
            · exact hK.elim
          · exact hK.elim
      · exact hK.elim
    · exact hK.elim
  · exact hK.elim

def dropX (hp : List Blk) : Option Nat → List Blk
  | none => hp
  | some X => hp.set X .gone

def appendS (T : Tree) (t : Nat) (x y : SV) (hp : List Blk) (K : SV → List Blk → Prop) : Prop :=
  match T.find t with
  | none => False
  | some ti => match ti.kind with
    | .slice e => match T.find e with
      | none => False
      | some te => if sizeL te.zero = some te.size then (srcS te.size hp y fun c2 => dstS te.size e hp x fun X c1 len cap =>
          apOk (sAddN len c2.len).val te.bytes ∧ joinC c1 c2 fun c => AllN (sAddN len c2.len).val fun cap' =>
            K (.slc hp.length 0 te.size (.lit 0) (sAddN len c2.len) (.ex cap')) (dropX hp X ++ [.cells e (c.list te.size ++ [.junk te.size (.ex (subN cap' (sAddN len c2.len).val))])])) else False
    | _ => False

theorem zeroCells_ones {ρ : Rho} {l : List SV} {z : Array Value} (hd : DenL ρ l z.toList) (n : Nat) : ∀ c ∈ (Builtin.zeroCells z n).toList, oneC c = true := by
  intro c hc
  simp only [Builtin.zeroCells, Array.toList_map, Array.toList_range, List.mem_map, List.mem_range] at hc
  obtain ⟨i, hi, rfl⟩ := hc
  have hpos : 0 < z.size := by
    rcases Nat.eq_zero_or_pos z.size with h | h
    · rw [h] at hi; simp at hi
    · exact h
  have hlt : i % z.size < z.size := Nat.mod_lt _ hpos
  rw [getElem!_pos z _ hlt]
  exact hd.ones_mem _ (by simp)

theorem grownCap_ge (w : World) (need old : Nat) (e : TypeId) (h : need ≤ 140737488355328) : need ≤ grownCap w need old e := by
  simp only [grownCap, Question.cut]
  omega
theorem drew_drewN (x : World) (n : Nat) (o : Obj) : (x.drewN n).drew.alloc o = (x.drew.alloc o).drewN n := by
  unfold World.drewN World.drew World.alloc
  congr 1
  simp only
  omega

theorem putB_same {w : World} {b : Nat} {o : Obj} (h : w.heap[b]? = some o) : putB w b o = w := by
  unfold putB
  have e : w.heap.setIfInBounds b o = w.heap := by
    apply Array.ext_getElem?
    intro i
    rw [Array.getElem?_setIfInBounds]
    split
    · rename_i e; subst e; rw [if_pos (Array.getElem?_eq_some_iff.1 h).1, h]
    · rfl
  rw [e]
theorem stored_setD (b off : Nat) (vs : List Value) (x : World) (n : Nat) : stored b off vs { x with drawn := n } = { stored b off vs x with drawn := n } := by
  unfold stored
  show (match x.heap[b]? with | _ => _) = _
  cases h : x.heap[b]? with
  | none => rfl
  | some o => cases o <;> rfl
/-- A block of some capacity is made. -/
theorem newCap_inv {ok : World → Prop} (lo : Nat) (mk : Nat → Nat → Value) (ob : Nat → Obj) (h1 : ∀ x d, ok x → ok { x with drawn := d }) :
    (Beh.mk ok fun x c x' => ∃ cap', lo ≤ cap' ∧ c = mk x.heap.size cap' ∧ x' = x.drew.alloc (ob cap')).Inv := by
  refine fun fz => ⟨fun x _ => ⟨_, _, lo, Nat.le_refl _, rfl, rfl⟩, fun x y ⟨d, e, _⟩ h => by rw [e]; exact h1 x d h, ?_⟩
  rintro x y v y' ⟨d, rfl, hd⟩ ⟨cap', h2, rfl, rfl⟩
  exact ⟨x.drew.alloc (ob cap'), ⟨cap', h2, rfl, rfl⟩, d + 1, rfl, fun hf => Nat.succ_le_succ (hd hf)⟩
theorem HSat.dropX {ρ : Rho} {hp : List Blk} {w : World} (h : HSat ρ hp w) (X : Option Nat) : HSat ρ (Vex.dropX hp X) w := by
  cases X with
  | none => exact h
  | some X => exact h.drop X
theorem dropX_length (hp : List Blk) (X : Option Nat) : (Vex.dropX hp X).length = hp.length := by cases X <;> simp [Vex.dropX]

theorem list_junk {w : Nat} {c : Cont} {ρ : Rho} {cs js : List Value} {n : S Nat} (hc : DenL ρ (c.list w) cs) (hj : js.length = n.val * w) (ho : ∀ j ∈ js, oneC j = true) : DenL ρ (c.list w ++ [.junk w n]) (cs ++ js) :=
  hc.append (.cons js [] (by simp) (.junk hj ho) (.nil rfl))

theorem appendS_sound {P : Program} {T : Tree} (hT : TOk P T) {t : Nat} (ty : TypeId) {ρ : Rho} {hp : List Blk} {w : World} (h : HSat ρ hp w) {x y : SV} {u v : Value} {K : SV → List Blk → Prop}
    (hu : Den ρ x u) (hv : Den ρ y v) (hK : appendS T t x y hp K) : Runs P (valS (Builtin.append_ #[t, t] ty #[u, v])) ρ w false .other K := by
  unfold appendS at hK
  split at hK
  · exact hK.elim
  · rename_i ti hti
    obtain ⟨d, hd1, hd2⟩ := (hT t ti hti).under
    obtain ⟨_, d', _, _, hd3, _, _, _, _, hd4, _⟩ := hT t ti hti
    split at hK
    · rename_i e hk
      rw [hk] at hd4
      simp only [kindOk] at hd4
      subst hd4
      split at hK
      · exact hK.elim
      · rename_i te hte
        obtain ⟨i, d2, z, hi1, hi2, hi3, hi4, hi5, hi6, hi7, _⟩ := hT e te hte
        split at hK
        · rename_i hsz
          have hzl : z.cells.size = te.size := by simpa using sizeL_len (hi6.weak (ρ := ρ)) hsz
          obtain ⟨c2, ys, ok2, den2, src, hK⟩ := srcS_sound h hv hK
          obtain ⟨X, c1, len, cap, xs, ok1, den1, hlen1, dst, hap, hK⟩ := dstS_sound h hu hK
          rw [apOk_eq, sAddN_val] at hap
          obtain ⟨c, okc, hclen, denc, hK⟩ := joinC_sound hK ok1 ok2 den1 den2
          rw [AllN_eq, sAddN_val] at hK
          have hys : ys.length = c2.len.val * te.size := Cont.size ok2 den2
          generalize hn : c2.len.val = n at *
          -- the state at the end
          cases dst with
          | nil hu' hx hl hc =>
            subst hu'; subst hx
            rcases Nat.eq_zero_or_pos n with h0 | hpos
            · -- nothing is appended to nothing
              subst h0
              have hys0 : ys = [] := List.length_eq_zero_iff.1 (by rw [hys]; omega)
              subst hys0
              refine Runs.det (ok := fun _ => True) (g := id) (val := fun _ => .slice none 0 0) (ρ' := ρ ++ [none]) (fun x _ => .inl (run_valS ?_)) (Beh.pure_inv _) trivial trivial (Ext.push _ _) ?_ ?_ (Kept.refl _) (by simp) (hK 0 (by omega))
              · rcases src.out with ⟨rfl, _, _⟩ | ⟨b, off, cp, rfl, _⟩
                · simp [Builtin.append_, run_underlying' hd3, sizeOf, run_typeInfo' hi1, Builtin.lenOf, Builtin.firstCells]
                · rw [hn]
                  simp [Builtin.append_, run_underlying' hd3, sizeOf, run_typeInfo' hi1, Builtin.lenOf, Builtin.firstCells, loadCells, loadCellsFrom]
              · refine .slc none (by rw [h.len]; simp) (fun _ => ⟨by rw [sAddN_val]; omega, rfl⟩) ?_
                simp [sAddN_val, hl, hn]
              · refine (h.dropX X).newNil ?_
                simpa using list_junk (n := .ex (subN 0 (len.val + 0))) (js := []) (by simpa using denc) (by rw [S.val_ex, subN_eq]; simp) (by simp)
            · -- a first row
              rcases src.out with ⟨_, _, h0⟩ | ⟨b, off, cp, rfl, hrd⟩
              · omega
              rw [hn]
              refine ⟨⟨fun x => ∀ (j : Nat) (u : Value), ys[j]? = some u → x.cell? ⟨b, off + j, none⟩ = some u,
                fun x c x' => ∃ cap', n ≤ cap' ∧ c = .slice (some ⟨x.heap.size, 0, none⟩) n cap' ∧ x' = x.drew.alloc (.cells (ys.toArray ++ Builtin.zeroCells z.cells (cap' - n)) e)⟩, fun x hx => .inl ?_, newCap_inv n (fun h cap' => .slice (some ⟨h, 0, none⟩) n cap') (fun cap' => .cells (ys.toArray ++ Builtin.zeroCells z.cells (cap' - n)) e) (fun x d hx => hx), hrd, trivial, ?_⟩
              · refine ⟨_, _, ⟨_, grownCap_ge x n 0 e (by omega), rfl, rfl⟩, run_valS (run_append_nil (P := P) x t ty e i z hd3 hi1 hi5 ⟨b, off, none⟩ n cp ys (by rw [hi3]; exact hys) (fun j u hu => by rw [addr_add]; exact hx j u hu) hpos (by omega) ?_)⟩
                rw [hi4]; rw [hl, Nat.zero_add] at hap; omega
              · rintro cv w' ⟨cap', h1, rfl, rfl⟩
                have hnew : HSat (ρ ++ [some (w.heap.size, 0)]) (dropX hp X ++ [.cells e (Cont.list te.size c ++ [.junk te.size (.ex (subN cap' (len.val + n)))])]) (w.drew.alloc (.cells (ys.toArray ++ Builtin.zeroCells z.cells (cap' - n)) e)) := by
                  refine (h.dropX X).new (o := .cells (ys.toArray ++ Builtin.zeroCells z.cells (cap' - n)) e) rfl ⟨ys ++ (Builtin.zeroCells z.cells (cap' - n)).toList, ?_, .inr ⟨w.heap.size, rfl, rfl, ?_⟩⟩
                  · refine list_junk (by simpa using denc.mono (Ext.push ρ [some (w.heap.size, 0)])) ?_ (zeroCells_ones hi6 _)
                    rw [S.val_ex, subN_eq, hl]
                    simp [size_zeroCells, hzl]
                  · show (w.heap.push _)[w.heap.size]? = _
                    simp
                refine ⟨_, _, _, Ext.push _ _, ?_, hnew, ⟨rfl, rfl, rfl, by show w.heap.size ≤ (w.heap.push _).size; simp⟩, by simp, hK cap' (by omega)⟩
                refine .slc (some (w.heap.size, 0)) (by rw [h.len]; simp) (by simp) ?_
                simp [sAddN_val, hl, hn]
          | row X0 b L js hX hr hk' hu' hb hxs hjs hlc ho =>
            subst hX
            have hcs : ∃ ao cp, v = .slice ao n cp ∧ ((ao = none ∧ ys = [] ∧ n = 0) ∨ ∃ b2 off, ao = some ⟨b2, off, none⟩ ∧ ∀ (j : Nat) (u : Value), ys[j]? = some u → w.cell? ⟨b2, off + j, none⟩ = some u) := by
              rcases src.out with ⟨rfl, h1, h2⟩ | ⟨b2, off, cp, rfl, hrd⟩
              · exact ⟨none, 0, by rw [show n = 0 by omega], .inl ⟨rfl, h1, by omega⟩⟩
              · exact ⟨_, cp, by rw [hn], .inr ⟨b2, off, rfl, hrd⟩⟩
            by_cases hroom : len.val + n ≤ cap.val
            · -- there is room
              have hjs' : ys.length ≤ js.length := by rw [hys, hjs]; exact Nat.mul_le_mul_right _ (by omega)
              have hones : ∀ v ∈ ys, oneC v = true := den2.ones_mem
              obtain ⟨ao, cp, rfl, hsrc⟩ := hcs
              subst hu'
              have hmove := h.move hr hk'
              have hidx : (ρ ++ [some (b, 0)])[hp.length]? = some (some (b, 0)) := by rw [h.len]; simp
              have hkx : (hp.set X0 .gone ++ [Blk.cells e L])[hp.length]? = some (.cells e L) := by
                rw [List.getElem?_append_right (by simp)]; simp
              obtain ⟨cs, _, g1, _, g3⟩ := hmove.cellsAt hidx hkx
              rw [hb] at g1
              simp only [Option.some.injEq, Obj.cells.injEq, Array.mk.injEq, and_true] at g1
              have g1 : xs ++ js = cs := by simpa using g1
              subst g1
              have hset : setMany (xs ++ js) (len.val * te.size) ys = xs ++ (ys ++ js.drop ys.length) := by
                rw [setMany_eq _ _ _ (by simp; omega), ← hxs]
                simp [List.drop_append]
              have hden : DenL (ρ ++ [some (b, 0)]) (c.list te.size ++ [.junk te.size (.ex (subN cap.val (len.val + n)))]) (xs ++ (ys ++ js.drop ys.length)) := by
                rw [← List.append_assoc]
                refine list_junk (denc.mono (Ext.push ρ [some (b, 0)])) ?_ fun j hj => ho j (List.mem_of_mem_drop hj)
                rw [S.val_ex, subN_eq]
                simp only [List.length_drop, hjs, hys]
                rw [← Nat.sub_mul]
                congr 1; omega
              have hend := g3 _ _ hden
              rw [List.set_append_right _ _ (by simp)] at hend
              simp only [List.length_set, Nat.sub_self, List.set_cons_zero] at hend
              have hst : stored b (len.val * te.size) ys w = putB w b (.cells (xs ++ (ys ++ js.drop ys.length)).toArray e (0, 0)) := by
                unfold stored
                rw [hb]
                simp only [hset]
              refine Runs.det (ok := fun x => x.heap[b]? = some (.cells (xs ++ js).toArray e (0, 0)) ∧ ∀ b2 off, ao = some ⟨b2, off, none⟩ → ∀ (j : Nat) (u : Value), ys[j]? = some u → x.cell? ⟨b2, off + j, none⟩ = some u)
                (g := fun x => if ys = [] then x else stored b (len.val * te.size) ys x) (val := fun _ => .slice (some ⟨b, 0, none⟩) (len.val + n) cap.val) (ρ' := ρ ++ [some (b, 0)]) (fun x ⟨hx1, hx2⟩ => .inl (run_valS ?_)) ?_ ⟨hb, ?_⟩ trivial (Ext.push _ _) ?_ (hp' := hp.set X0 .gone ++ [.cells e (c.list te.size ++ [.junk te.size (.ex (subN cap.val (len.val + n)))])]) ?_ ?_ (by simp) (hK cap.val hroom)
              · have hf : (Builtin.firstCells te.size n (.slice ao n cp)).run P x = .ok ys.toArray x := by
                  rcases hsrc with ⟨rfl, rfl, rfl⟩ | ⟨b2, off, rfl, _⟩
                  · simp [Builtin.firstCells]
                  · exact run_firstCells_some x te.size n ⟨b2, off, none⟩ n cp ys hys fun j u hu => by rw [addr_add]; exact hx2 b2 off rfl j u hu
                have hsto : (storeCells ⟨b, len.val * te.size, none⟩ ys).run P x = .ok () (if ys = [] then x else stored b (len.val * te.size) ys x) := by
                  split
                  · rename_i e; subst e; simp [storeCells]
                  · exact run_stored hx1 (by simp; omega) hones
                unfold Builtin.append_
                simp only [List.getElem?_toArray, List.getElem?_cons_zero, List.getElem?_cons_succ, Sem.run_bind, run_underlying' hd3, Result.andThen_ok, sizeOf, run_typeInfo' hi1, Sem.run_pure, Builtin.lenOf, hi3]
                simp [hroom, hf, addr_add, hsto]
              · refine Beh.det_inv (fun _ _ h => h) (fun x m => ?_) (fun _ _ => rfl)
                split
                · rfl
                · exact stored_setD _ _ _ _ _
              · intro b2 off e
                rcases hsrc with ⟨rfl, _⟩ | ⟨b3, off3, e3, hrd⟩
                · cases e
                · rw [e3] at e; cases e; exact hrd
              · refine .slc (some (b, 0)) hidx (by simp) ?_
                simp [sAddN_val, hn]
              · show HSat _ _ (if ys = [] then w else stored b (len.val * te.size) ys w)
                split
                · rename_i e0
                  rw [e0] at hst hend hset
                  have : putB w b (.cells (xs ++ ([] ++ js.drop 0)).toArray e (0, 0)) = w := by
                    have := hst; unfold stored at this; rw [hb] at this
                    simp only [setMany] at this
                    have e4 : putB w b (.cells (xs ++ js).toArray e (0, 0)) = w := putB_same hb
                    simpa using e4
                  rw [show ([] : List Value).length = 0 from rfl, this] at hend
                  exact hend
                · rw [hst]; exact hend
              · show Kept w (if ys = [] then w else stored b (len.val * te.size) ys w)
                split
                · exact Kept.refl _
                · rw [hst]; exact Kept.putB _ _ _
            · -- it moves
              have hnpos : 0 < n := by omega
              obtain ⟨ao, cp, rfl, hsrc⟩ := hcs
              subst hu'
              obtain ⟨b2, off, rfl, hrd⟩ : ∃ b2 off, ao = some ⟨b2, off, none⟩ ∧ ∀ (j : Nat) (u : Value), ys[j]? = some u → w.cell? ⟨b2, off + j, none⟩ = some u := by
                rcases hsrc with ⟨_, _, h0⟩ | h0
                · omega
                · exact h0
              refine ⟨⟨fun x => x.heap[b]? = some (.cells (xs ++ js).toArray e (0, 0)) ∧ ∀ (j : Nat) (u : Value), ys[j]? = some u → x.cell? ⟨b2, off + j, none⟩ = some u,
                fun x c x' => ∃ cap', len.val + n ≤ cap' ∧ c = .slice (some ⟨x.heap.size, 0, none⟩) (len.val + n) cap' ∧ x' = x.drew.alloc (.cells (xs.toArray ++ ys.toArray ++ Builtin.zeroCells z.cells (cap' - (len.val + n))) e)⟩, fun x hx => .inl ?_, newCap_inv (len.val + n) (fun h cap' => .slice (some ⟨h, 0, none⟩) (len.val + n) cap') (fun cap' => .cells (xs.toArray ++ ys.toArray ++ Builtin.zeroCells z.cells (cap' - (len.val + n))) e) (fun x d hx => hx), ⟨hb, hrd⟩, trivial, ?_⟩
              · refine ⟨_, _, ⟨_, grownCap_ge x (len.val + n) cap.val e (by omega), rfl, rfl⟩, run_valS (run_append_grow (P := P) x t ty e i z hd3 hi1 hi5 ⟨b, 0, none⟩ len.val cap.val xs (by rw [hi3]; exact hxs) (fun j u hu => ?_) ⟨b2, off, none⟩ n cp ys (by rw [hi3]; exact hys) (fun j u hu => by rw [addr_add]; exact hx.2 j u hu) (by omega) (by omega) ?_)⟩
                · rw [addr_add, cell_of hx.1, Nat.zero_add]
                  have := (List.getElem?_eq_some_iff.1 hu).1
                  simp only [List.getElem?_toArray]
                  rw [List.getElem?_append_left this]; exact hu
                · rw [hi4]; exact growslice_fits (by omega) hap.1
              · rintro cv w' ⟨cap', h1, rfl, rfl⟩
                have hnew : HSat (ρ ++ [some (w.heap.size, 0)]) (dropX hp (some X0) ++ [.cells e (Cont.list te.size c ++ [.junk te.size (.ex (subN cap' (len.val + n)))])]) (w.drew.alloc (.cells (xs.toArray ++ ys.toArray ++ Builtin.zeroCells z.cells (cap' - (len.val + n))) e)) := by
                  refine (h.dropX (some X0)).new (o := .cells (xs.toArray ++ ys.toArray ++ Builtin.zeroCells z.cells (cap' - (len.val + n))) e) rfl ⟨(xs ++ ys) ++ (Builtin.zeroCells z.cells (cap' - (len.val + n))).toList, ?_, .inr ⟨w.heap.size, rfl, rfl, ?_⟩⟩
                  · refine list_junk (denc.mono (Ext.push ρ [some (w.heap.size, 0)])) ?_ (zeroCells_ones hi6 _)
                    rw [S.val_ex, subN_eq]
                    simp [size_zeroCells, hzl]
                  · show (w.heap.push _)[w.heap.size]? = _
                    simp
                refine ⟨_, _, _, Ext.push _ _, ?_, hnew, ⟨rfl, rfl, rfl, by show w.heap.size ≤ (w.heap.push _).size; simp⟩, by simp, hK cap' (by omega)⟩
                refine .slc (some (w.heap.size, 0)) (by rw [h.len]; simp) (by simp) ?_
                simp [sAddN_val, hn]
        · exact hK.elim
    · exact hK.elim
end
end Go.Vex
end

/-
  VEX, part 9: the evaluator of one operation, and that the model does as it says.
-/
section
namespace Go.Vex
noncomputable section

abbrev Fr := List (Nat × SV)
def look : Fr → Nat → Option SV
  | [], _ => none
  | (s, v) :: r, t => if s = t then some v else look r t

def ofV : Value → SV
  | .int k n => .i k (.lit n)
  | .bool b => .b (.lit b)
  | .string s => .str s
  | .pointer none => .nilp
  | .slice none 0 0 => .nilslc
  | .nilFunc => .nilfn
  | .nilIface => .nilifc
  | .map none => .nilmap
  | v => .raw v
theorem ofV_sound (ρ : Rho) (v : Value) : Den ρ (ofV v) v := by
  unfold ofV; split <;> first | exact .i rfl | exact .b rfl | exact .str rfl | exact .nilp rfl | exact .nilslc rfl | exact .nilfn rfl | exact .nilifc rfl | exact .nilmap rfl | exact .raw rfl

def findG (g : Nat) : List Blk → Nat → Option Nat
  | [], _ => none
  | .glob g' l :: r, k => if g' = g then some k else findG g r (k + 1)
  | _ :: r, k => findG g r (k + 1)
theorem findG_sound {g : Nat} : ∀ {hp : List Blk} {k y : Nat}, findG g hp k = some y → k ≤ y ∧ ∃ l, hp[y - k]? = some (.glob g l)
  | [], k, y, h => by simp [findG] at h
  | b :: r, k, y, h => by
    have next (h' : findG g r (k + 1) = some y) : k ≤ y ∧ ∃ l, (b :: r)[y - k]? = some (.glob g l) := by
      obtain ⟨g1, l, g2⟩ := findG_sound h'
      exact ⟨by omega, l, by rw [show y - k = (y - (k + 1)) + 1 by omega]; simpa using g2⟩
    cases b with
    | glob g' l =>
      simp only [findG] at h
      split at h
      · rename_i e; subst e; cases h; exact ⟨Nat.le_refl _, l, by simp⟩
      · exact next h
    | _ => exact next h

def ev (fr : Fr) (hp : List Blk) : Operand → Option SV
  | .tmp t => if t = 1000003 then none else look fr t
  | .const v => some (ofV v)
  | .func f => some (.fn (.func f) [] [])
  | .global g => match findG g hp 0 with
    | some y => some (.p y (.at 0))
    | none => none

/-- Which round a frame is of: slot 1000003 tells. -/
def rdOf : Option SV → Option Nat
  | some (.tup [.raw (.int .u64 y)]) => some y.toNat
  | _ => none
/-- The blocks of ranges over functions, taken at the end. -/
def DenMk (ρ : Rho) : Option SV → List Deferred → Prop
  | none, ds => ds = []
  | some (.tup l), ds => rdOf (some (.tup l)) = none → ∃ bs : List Nat, DenT ρ l (bs.map fun b => .pointer (some ⟨b, 0, none⟩)) ∧ ds = bs.map fun b => { target := .collected b, args := #[] }
  | some _, _ => False
theorem DenMk.mono {ρ ρ' : Rho} (e : Ext ρ ρ') {x : Option SV} {ds : List Deferred} (h : DenMk ρ x ds) : DenMk ρ' x ds := by
  cases x with
  | none => exact h
  | some v => cases v <;> first | exact h | (intro hr; obtain ⟨bs, h1, h2⟩ := h hr; exact ⟨bs, h1.mono e, h2⟩)
/-- nt: how many slots; of which round. -/
structure FSat (ρ : Rho) (nt : Nat × Option Nat) (fr : Fr) (a : Act) : Prop where
  size : a.tmps.size = nt.1
  le : nt.1 ≤ 1000003
  rdk : nt.2 = rdOf (look fr 1000003)
  marks : DenMk ρ (look fr 1000003) a.defers
  val : ∀ (t : Nat) (v : SV), t ≠ 1000003 → look fr t = some v → Den ρ v (a.tmps.getD t undef)
theorem FSat.valN {ρ : Rho} {nt : Nat × Option Nat} {fr : Fr} {a : Act} (h : FSat ρ nt fr a) {t : Nat} {v : SV} (hl : look fr t = some v) (hv : ∀ l, v ≠ .tup l) : t ≠ 1000003 ∧ Den ρ v (a.tmps.getD t undef) := by
  have ht : t ≠ 1000003 := by
    rintro rfl
    have := h.marks
    rw [hl] at this
    cases v <;> first | exact this.elim | exact hv _ rfl
  exact ⟨ht, h.val t v ht hl⟩

theorem FSat.mono {ρ ρ' : Rho} {nt : Nat × Option Nat} {fr : Fr} {a : Act} (e : Ext ρ ρ') (h : FSat ρ nt fr a) : FSat ρ' nt fr a := ⟨h.size, h.le, h.rdk, h.marks.mono e, fun t v ht hv => (h.val t v ht hv).mono e⟩
theorem look_ne {fr : Fr} {d t : Nat} {v : SV} (h : d ≠ t) : look ((d, v) :: fr) t = look fr t := by rw [look, if_neg h]
theorem FSat.put {ρ : Rho} {nt : Nat × Option Nat} {fr : Fr} {a : Act} (h : FSat ρ nt fr a) {d : Nat} (hd : d < nt.1) {v : SV} {c : Value} (hv : Den ρ v c) : FSat ρ nt ((d, v) :: fr) (a.put (some d) c) := by
  have hle := h.le
  refine ⟨by simp [Act.put, h.size], hle, by rw [look_ne (by omega)]; exact h.rdk, by rw [look_ne (by omega)]; exact h.marks, fun t u ht hu => ?_⟩
  unfold look at hu
  split at hu
  · rename_i e; subst e; cases hu
    simp [Act.put, h.size, hd]; exact hv
  · rename_i e
    have := h.val t u ht hu
    simp only [Act.put, Array.getD_eq_getD_getElem?] at this ⊢
    rw [Array.getElem?_setIfInBounds_ne e]; exact this

theorem ev_sound {ρ : Rho} {nt : Nat × Option Nat} {fr : Fr} {a : Act} {hp : List Blk} {w : World} (h : HSat ρ hp w) (hf : FSat ρ nt fr a) {x : Operand} {v : SV} (hv : ev fr hp x = some v) : Den ρ v (a.eval x) := by
  cases x with
  | tmp t =>
    simp only [ev] at hv
    split at hv
    · cases hv
    · rename_i ht; exact hf.val t v ht hv
  | const u => cases hv; exact ofV_sound ρ u
  | func f => cases hv; exact .fn [] [] rfl (.nil rfl) (.nil rfl)
  | global g =>
    simp only [ev] at hv
    split at hv
    · rename_i y hy
      cases hv
      obtain ⟨_, l, g2⟩ := findG_sound hy
      obtain ⟨ω, h⟩ := h
      have hlt : y < hp.length := (List.getElem?_eq_some_iff.1 g2).1
      have h1 : ∃ r, ρ[y]? = some r := ⟨ρ[y]'(by rw [← h.lenh]; exact hlt), by simp⟩
      have h2 : ∃ o, ω[y]? = some o := ⟨ω[y]'(by rw [h.lenω, ← h.lenh]; exact hlt), by simp⟩
      obtain ⟨r, hr⟩ := h1
      obtain ⟨o, ho⟩ := h2
      obtain ⟨cs, arr, T, fz, e1, e2, e3⟩ := h.sat y r o _ hr ho g2
      subst e2
      exact .p g 0 hr rfl
    · cases hv

def ev1 (fr : Fr) (hp : List Blk) (x : Operand) (K : SV → Prop) : Prop :=
  match ev fr hp x with
  | some v => K v
  | none => False
theorem ev1_sound {ρ : Rho} {nt : Nat × Option Nat} {fr : Fr} {a : Act} {hp : List Blk} {w : World} (h : HSat ρ hp w) (hf : FSat ρ nt fr a) {x : Operand} {K : SV → Prop} (hv : ev1 fr hp x K) :
    ∃ v, Den ρ v (a.eval x) ∧ K v := by
  unfold ev1 at hv
  split at hv
  · rename_i v h1; exact ⟨v, ev_sound h hf h1, hv⟩
  · exact hv.elim

def evO (fr : Fr) (hp : List Blk) (x : Option Operand) (K : Option SV → Prop) : Prop :=
  match x with
  | none => K none
  | some x => ev1 fr hp x fun v => K (some v)
theorem evO_sound {ρ : Rho} {nt : Nat × Option Nat} {fr : Fr} {a : Act} {hp : List Blk} {w : World} (h : HSat ρ hp w) (hf : FSat ρ nt fr a) {x : Option Operand} {K : Option SV → Prop} (hv : evO fr hp x K) :
    ∃ v, DenO ρ v (x.map a.eval) ∧ K v := by
  cases x with
  | none => exact ⟨none, trivial, hv⟩
  | some x => obtain ⟨v, g1, g2⟩ := ev1_sound h hf hv; exact ⟨some v, g1, g2⟩

def evL (fr : Fr) (hp : List Blk) : List Operand → Option (List SV)
  | [] => some []
  | x :: r => match ev fr hp x with
    | some v => match evL fr hp r with
      | some l => some (v :: l)
      | none => none
    | none => none
theorem evL_sound {ρ : Rho} {nt : Nat × Option Nat} {fr : Fr} {a : Act} {hp : List Blk} {w : World} (h : HSat ρ hp w) (hf : FSat ρ nt fr a) : ∀ {xs : List Operand} {l : List SV}, evL fr hp xs = some l → DenT ρ l (xs.map a.eval)
  | [], l, hv => by cases hv; exact .nil rfl
  | x :: r, l, hv => by
    unfold evL at hv
    split at hv
    · rename_i v h1
      split at hv
      · rename_i l' h2
        cases hv
        exact .cons _ _ rfl (ev_sound h hf h1) (evL_sound h hf h2)
      · cases hv
    · cases hv

def evP (fr : Fr) (hp : List Blk) : List (Nat × Operand) → Option (List (Nat × SV))
  | [] => some []
  | (i, x) :: r => match ev fr hp x with
    | some v => match evP fr hp r with
      | some l => some ((i, v) :: l)
      | none => none
    | none => none
theorem evP_sound {ρ : Rho} {nt : Nat × Option Nat} {fr : Fr} {a : Act} {hp : List Blk} {w : World} (h : HSat ρ hp w) (hf : FSat ρ nt fr a) : ∀ {xs : List (Nat × Operand)} {l : List (Nat × SV)}, evP fr hp xs = some l →
    DenP ρ l (xs.map fun x => (x.1, a.eval x.2))
  | [], l, hv => by cases hv; exact .nil
  | (i, x) :: r, l, hv => by
    unfold evP at hv
    split at hv
    · rename_i v h1
      split at hv
      · rename_i l' h2
        cases hv
        exact .cons (ev_sound h hf h1) (evP_sound h hf h2)
      · cases hv
    · cases hv

/-! ### Methods of pointers behind interface values -/
abbrev MT := List (Nat × String × Nat)
def findM : MT → Nat → String → Option Nat
  | [], _, _ => none
  | (t, n, f) :: r, t', n' => if t = t' then (if n = n' then some f else findM r t' n') else findM r t' n'
def MOk (P : Program) (M : MT) : Prop := ∀ t n f, findM M t n = some f →
  (∀ a w, (nilAhead (P.types.size + Made.depth) t (.pointer (some a)) n).run P w = .ok (some false) w) ∧
  (∀ a w, (method (P.types.size + Made.depth) t (.pointer (some a)) n).run P w = .ok (f, .pointer (some a)) w)

def nilCheckS (M : MT) (x : SV) (K : SV → Prop) : Prop :=
  match x with
  | .p .. => K x
  | .fn f first cap => match f with
    | .func _ => K x
    | .method n => match first with
      | [.ifc t (.p y o)] => match findM M t n with
        | some _ => K x
        | none => False
      | _ => False
    | _ => False
  | .ifc .. => K x
  | _ => False

def nilCheckSem (u : Value) : Sem Next :=
  match u with
  | .pointer none | .nilIface | .nilFunc => runtimePanic .nilDeref
  | .func (.method name) first captured =>
    match (first[0]? : Option Value) with
    | some .nilIface => runtimePanic .nilDeref
    | some (.iface t w) => do
      if (← nilAhead ((← program).types.size + Made.depth) t w name) != some false then
        unsupported (.noEntry "op/nilCheck.the method's receiver behind this interface value is a nil pointer, or cannot be seen to be none, and the arguments act or may panic (ledger 612)")
      pure (.value (.func (.method name) first captured))
    | _ => pure (.value (.func (.method name) first captured))
  | x => pure (.value x)

theorem nilCheckS_sound {P : Program} {M : MT} (hM : MOk P M) {x : SV} {K : SV → Prop} {ρ : Rho} {u : Value} (hx : Den ρ x u) (h : nilCheckS M x K) :
    ∃ v c, (∀ w, (nilCheckSem u).run P w = .ok (.value c) w) ∧ Den ρ v c ∧ K v := by
  unfold nilCheckS at h
  split at h
  · refine ⟨_, u, ?_, hx, h⟩
    cases hx with | p b o0 hx hc => subst hc; intro w; rfl
  · split at h
    · refine ⟨_, u, ?_, hx, h⟩
      cases hx with | fn vs us hc h1 h2 => subst hc; intro w; rfl
    · split at h
      · rename_i t y o
        split at h
        · rename_i f hf
          refine ⟨_, u, ?_, hx, h⟩
          cases hx with
          | fn vs us hc h1 h2 =>
            subst hc
            cases h1 with
            | cons c c2 hc h1 h3 =>
              subst hc
              cases h1 with
              | ifc q hq hp =>
                cases hp with
                | p b o0 hx hc =>
                  subst hq; subst hc
                  intro w
                  have := (hM t _ f hf).1 ⟨b, o0 + o.val, none⟩ w
                  simp only [nilCheckSem, List.getElem?_toArray, List.getElem?_cons_zero, Sem.run_bind, run_program, Result.andThen_ok, this]
                  rfl
        · exact h.elim
      · exact h.elim
    · exact h.elim
  · refine ⟨_, u, ?_, hx, h⟩
    cases hx with | ifc q hc hp => subst hc; intro w; rfl
  · exact h.elim

/-! ### Lengths -/
def lenS (T : Tree) (t : Nat) (isLen : Bool) (x : SV) (K : SV → Prop) : Prop :=
  match T.find t with
  | none => False
  | some ti => match ti.kind with
    | .slice _ => match x with
      | .slc y l w o len cap => K (.i .i64 (sOfN (if isLen = true then len else cap)))
      | .nilslc => K (.i .i64 (.lit 0))
      | .slr y b w len cap => K (.i .i64 (sOfN (if isLen = true then len else cap)))
      | _ => False
    | .array n _ => K (.i .i64 (.lit n))
    | _ => False
theorem lenS_sound {P : Program} {T : Tree} (hT : TOk P T) {t : Nat} {x : SV} {K : SV → Prop} {ρ : Rho} {u : Value} (ty : TypeId) (hx : Den ρ x u) :
    (lenS T t true x K → Gives P (Builtin.len_ #[t] ty #[u]) ρ K) ∧ (lenS T t false x K → Gives P (Builtin.cap_ #[t] ty #[u]) ρ K) := by
  constructor
  all_goals
    intro h
    unfold lenS at h
    split at h
    · exact h.elim
    · rename_i ti hti
      obtain ⟨d, h1, h2⟩ := (hT t ti hti).under
      split at h
      · rename_i e hk
        rw [hk] at h2
        simp only [kindOk] at h2
        subst h2
        split at h
        · rename_i y l ws o len cap
          cases hx with
          | slc r hx hn hc =>
            subst hc
            first
              | exact ⟨_, .int .i64 len.val, fun w => by simp [Builtin.len_, h1 w, goInt], .i (by rw [sOfN_val]; rfl), h⟩
              | exact ⟨_, .int .i64 cap.val, fun w => by simp [Builtin.cap_, h1 w, goInt], .i (by rw [sOfN_val]; rfl), h⟩
        · cases hx with
          | nilslc hc =>
            subst hc
            first
              | exact ⟨_, .int .i64 0, fun w => by simp [Builtin.len_, h1 w, goInt], .i rfl, h⟩
              | exact ⟨_, .int .i64 0, fun w => by simp [Builtin.cap_, h1 w, goInt], .i rfl, h⟩
        · rename_i y bo ws len cap
          cases hx with
          | slr b o0 hx hc =>
            subst hc
            first
              | exact ⟨_, .int .i64 len.val, fun w => by simp [Builtin.len_, h1 w, goInt], .i (by rw [sOfN_val]; rfl), h⟩
              | exact ⟨_, .int .i64 cap.val, fun w => by simp [Builtin.cap_, h1 w, goInt], .i (by rw [sOfN_val]; rfl), h⟩
        · exact h.elim
      · rename_i n e hk
        rw [hk] at h2
        simp only [kindOk] at h2
        subst h2
        first
          | exact ⟨_, .int .i64 n, fun w => by simp [Builtin.len_, h1 w, goInt], .i rfl, h⟩
          | exact ⟨_, .int .i64 n, fun w => by simp [Builtin.cap_, h1 w, goInt], .i rfl, h⟩
      · exact h.elim

/-! ### One operation -/
def builtinS (T : Tree) (b : Builtin) (args : List SV) (tys : List Nat) (hp : List Blk) (K : SV → List Blk → Prop) : Prop :=
  match b with
  | .len => match args with
    | [x] => match tys with
      | [t] => lenS T t true x fun v => K v hp
      | _ => False
    | _ => False
  | .cap => match args with
    | [x] => match tys with
      | [t] => lenS T t false x fun v => K v hp
      | _ => False
    | _ => False
  | .append => match args with
    | [x, y] => match tys with
      | [t, t'] => if t = t' then appendS T t x y hp K else False
      | _ => False
    | _ => False
  | _ => False

def makeIfcS (T : Tree) (t : Nat) (v : SV) (K : SV → Prop) : Prop :=
  match T.find t with
  | none => False
  | some ti => match ti.kind with
    | .iface => False
    | .other => False
    | _ => K (.ifc t v)

def opS (T : Tree) (M : MT) (o : Op) (fr : Fr) (hp : List Blk) (K : SV → List Blk → Prop) : Prop :=
  match o with
  | .move x => ev1 fr hp x fun v => K v hp
  | .assign x => ev1 fr hp x fun v => K v hp
  | .pick c a b => ev1 fr hp c fun c => match c with
    | .b (.lit t) => if t = true then ev1 fr hp a fun v => K v hp else ev1 fr hp b fun v => K v hp
    | .b (.ex t) => Br t (fun _ => ev1 fr hp a fun v => K v hp) (fun _ => ev1 fr hp b fun v => K v hp)
    | _ => False
  | .alloc t => allocS T t hp K
  | .box t x => ev1 fr hp x fun v => boxS t v hp K
  | .build t parts => match evP fr hp parts.toList with
    | some ps => buildS T t ps fun v => K v hp
    | none => False
  | .buildSlice t n parts => match evP fr hp parts.toList with
    | some ps => buildSliceS T t n ps hp K
    | none => False
  | .load t x => ev1 fr hp x fun v => match v with
    | .p y o => loadS T t hp y o fun v => K v hp
    | _ => False
  | .store t x v => ev1 fr hp x fun u => ev1 fr hp v fun v => match u with
    | .p y o => storeS T t hp y o v fun hp' => K (.raw undef) hp'
    | _ => False
  | .nilCheck x => ev1 fr hp x fun v => nilCheckS M v fun v => K v hp
  | .binOp op t x y _ => ev1 fr hp x fun u => ev1 fr hp y fun v => binS T op t x y u v fun v => K v hp
  | .unOp op t x => ev1 fr hp x fun v => unS op v fun v => K v hp
  | .convert s d x => ev1 fr hp x fun v => convS T s d v fun v => K v hp
  | .makeInterface t x => ev1 fr hp x fun v => makeIfcS T t v fun v => K v hp
  | .makeFunc f first cap => match evL fr hp first.toList with
    | some l => match evL fr hp cap.toList with
      | some m => K (.fn f l m) hp
      | none => False
    | none => False
  | .makeSlice t l c => ev1 fr hp l fun u => ev1 fr hp c fun v => makeSliceS T t u v hp K
  | .slice t x lo hi mx => match mx with
    | none => ev1 fr hp x fun v => evO fr hp lo fun lo => evO fr hp hi fun hi => sliceS T t v lo hi fun v => K v hp
    | some _ => False
  | .fieldAddr s x f => ev1 fr hp x fun v => fieldAddrS T s v f fun v => K v hp
  | .field t x f => ev1 fr hp x fun v => fieldS T t v f fun v => K v hp
  | .indexAddr t x i => ev1 fr hp x fun v => ev1 fr hp i fun i => indexAddrS T t v i fun v => K v hp
  | .index t x i => ev1 fr hp x fun v => ev1 fr hp i fun i => indexS T t v i fun v => K v hp
  | .extract x n => ev1 fr hp x fun v => extractS v n fun v => K v hp
  | .call c => match c.callee with
    | .builtin b => match evL fr hp c.args.toList with
      | some l => builtinS T b l c.argTypes.toList hp K
      | none => False
    | _ => False
  | _ => False

/-- It leaves the world as it was. -/
def quietOp : Op → Bool
  | .alloc _ | .box .. | .buildSlice .. | .store .. | .makeSlice .. => false
  | .call c => match c.callee with
    | .builtin .len | .builtin .cap => true
    | _ => false
  | _ => true

/-- What it touches. -/
def effS (T : Tree) (o : Op) (fr : Fr) (hp : List Blk) : SEff :=
  match o with
  | .alloc _ | .box .. | .buildSlice .. | .makeSlice .. => .new
  | .load t x => match ev fr hp x with
    | some (.p y o) => .rd y o (loadN T t)
    | _ => .pure
  | .store t x _ => match ev fr hp x with
    | some (.p y o) => .wr y o (storeN T t)
    | _ => .pure
  | .call c => match c.callee with
    | .builtin b => match b with
      | .len => .pure
      | .cap => .pure
      | _ => .other
    | _ => .pure
  | _ => .pure

theorem Gives.runs {P : Program} {s : Sem Value} {ρ : Rho} {w : World} {hp : List Blk} {K : SV → List Blk → Prop} {q : Bool} (h : HSat ρ hp w) (hg : Gives P s ρ fun v => K v hp) :
    Runs P (valS s) ρ w q .pure K := by
  obtain ⟨v, c, h1, h2, h3⟩ := hg
  exact Runs.pure h (fun x => run_valS (h1 x)) h2 h3

theorem ev1_ev {fr : Fr} {hp : List Blk} {x : Operand} {K : SV → Prop} (hv : ev1 fr hp x K) : ∃ v, ev fr hp x = some v ∧ K v := by
  unfold ev1 at hv
  split at hv
  · exact ⟨_, ‹_›, hv⟩
  · exact hv.elim

theorem opS_sound {P : Program} {T : Tree} {M : MT} (hT : TOk P T) (hM : MOk P M) {ρ : Rho} {nt : Nat × Option Nat} {fr : Fr} {a : Act} {hp : List Blk} {w : World} (h : HSat ρ hp w) (hf : FSat ρ nt fr a)
    (o : Oper) {K : SV → List Blk → Prop} (hK : opS T M o.op fr hp K) : Runs P (execOp a.eval o) ρ w (quietOp o.op) (effS T o.op fr hp) K := by
  obtain ⟨dst, op, type, pos, after, guard⟩ := o
  simp only at hK
  unfold opS at hK
  split at hK
  case h_1 x =>
    obtain ⟨v, g1, g2⟩ := ev1_sound h hf hK
    exact Runs.pure h (fun _ => rfl) g1 g2
  case h_2 x =>
    obtain ⟨v, g1, g2⟩ := ev1_sound h hf hK
    exact Runs.pure h (fun _ => rfl) g1 g2
  case h_3 c x y =>
    obtain ⟨v, g1, g2⟩ := ev1_sound h hf hK
    have key : ∀ t : Bool, a.eval c = .bool t → ((t = true → ev1 fr hp x fun v => K v hp) ∧ (t = false → ev1 fr hp y fun v => K v hp)) →
        Runs P (execOp a.eval ⟨dst, .pick c x y, type, pos, after, guard⟩) ρ w true .pure K := by
      intro t ht ⟨k1, k2⟩
      cases t with
      | true =>
        obtain ⟨v, g1, g2⟩ := ev1_sound h hf (k1 rfl)
        exact Runs.pure h (fun _ => by simp [execOp, ht, asBool]) g1 g2
      | false =>
        obtain ⟨v, g1, g2⟩ := ev1_sound h hf (k2 rfl)
        exact Runs.pure h (fun _ => by simp [execOp, ht, asBool]) g1 g2
    split at g2
    · rename_i t
      cases g1 with
      | b hb =>
        refine key t hb ?_
        cases t
        · exact ⟨by simp, fun _ => by simpa using g2⟩
        · exact ⟨fun _ => by simpa using g2, by simp⟩
    · rename_i t
      cases g1 with
      | b hb => rw [Br_eq] at g2; exact key t hb g2
    · exact g2.elim
  case h_4 t => exact allocS_sound hT h hK
  case h_5 t x => obtain ⟨v, g1, g2⟩ := ev1_sound h hf hK; exact boxS_sound h g1 g2
  case h_6 t parts =>
    split at hK
    · rename_i ps hps
      have hp' := evP_sound h hf hps
      have := (buildS_sound hT hp' hK)
      have e : (parts.map fun (i, x) => (i, a.eval x)) = (parts.toList.map fun x => (x.1, a.eval x.2)).toArray := by
        apply Array.ext'; simp
      exact Gives.runs h (by rw [← e] at this; exact this)
    · exact hK.elim
  case h_7 t n parts =>
    split at hK
    · rename_i ps hps
      have hp' := evP_sound h hf hps
      have := (buildSliceS_sound hT h hp' hK)
      have e : (parts.map fun (i, x) => (i, a.eval x)) = (parts.toList.map fun x => (x.1, a.eval x.2)).toArray := by
        apply Array.ext'; simp
      rw [← e] at this; exact this
    · exact hK.elim
  case h_8 t x =>
    obtain ⟨v, g1, g2⟩ := ev1_ev hK
    have g1' := ev_sound h hf g1
    split at g2
    · rename_i y o
      obtain ⟨b, o0, cs, v, u, e0, e1, e2, e3, e4, e5⟩ := loadS_all hT h g1' g2
      show Runs P _ ρ w true (effS T (.load t x) fr hp) K
      simp only [effS, g1]
      exact Runs.det (fun x hx => .inl (run_valS (e3 x hx))) (rdB_inv b (o0 + o.val) cs u) e2 ⟨b, o0, cs, u, e0, e1, rfl⟩ (Ext.refl _) e4 h (Kept.refl _) (fun _ => rfl) e5
    · exact g2.elim
  case h_9 t x y =>
    obtain ⟨u, g1, g2⟩ := ev1_ev hK
    have g1' := ev_sound h hf g1
    obtain ⟨v, g3, g4⟩ := ev1_sound h hf g2
    split at g4
    · show Runs P _ ρ w false (effS T (.store t x y) fr hp) K
      simp only [effS, g1]
      exact storeS_sound hT h g1' g3 g4
    · exact g4.elim
  case h_10 x =>
    obtain ⟨u, g1, g2⟩ := ev1_sound h hf hK
    obtain ⟨v, c, e1, e2, e3⟩ := nilCheckS_sound hM g1 g2
    exact Runs.pure h e1 e2 e3
  case h_11 op t x y t' =>
    obtain ⟨u, g1, g2⟩ := ev1_sound h hf hK
    obtain ⟨v, g3, g4⟩ := ev1_sound h hf g2
    obtain ⟨z, c, e1, e2, e3⟩ := binS_sound hT g1 g3 g4
    exact Gives.runs h ⟨z, c, e1, e2, e3⟩
  case h_12 op t x =>
    obtain ⟨u, g1, g2⟩ := ev1_sound h hf hK
    exact Gives.runs h (unS_sound g1 g2)
  case h_13 s d x =>
    obtain ⟨u, g1, g2⟩ := ev1_sound h hf hK
    exact Gives.runs h (convS_sound hT g1 g2)
  case h_14 t x =>
    obtain ⟨u, g1, g2⟩ := ev1_sound h hf hK
    unfold makeIfcS at g2
    split at g2
    · exact g2.elim
    · rename_i ti hti
      obtain ⟨d, h1, h2⟩ := (hT t ti hti).under
      have key : (∀ ms, d ≠ .interface ms) → K (.ifc t u) hp → Runs P (execOp a.eval ⟨dst, .makeInterface t x, type, pos, after, guard⟩) ρ w true .pure K := by
        intro hne hK
        refine Gives.runs h ⟨.ifc t u, .iface t (a.eval x), ?_, .ifc _ rfl g1, hK⟩
        intro w
        unfold Instr.makeInterface
        rw [Sem.run_bind, h1 w, Result.andThen_ok]
        cases d <;> first | rfl | exact absurd rfl (hne _)
      cases hk : ti.kind <;> simp only [hk, kindOk] at g2 h2
      case struct => obtain ⟨arr, rfl, _⟩ := h2; exact key (by simp) g2
      case func => obtain ⟨_, _, _, rfl⟩ := h2; exact key (by simp) g2
      all_goals (subst h2; exact key (by simp) g2)
  case h_15 f first cap =>
    split at hK
    · rename_i l hl
      split at hK
      · rename_i m hm
        refine Runs.pure h (fun _ => ?_) (.fn _ _ rfl (evL_sound h hf hl) (evL_sound h hf hm)) hK
        have e1 : first.map a.eval = (first.toList.map a.eval).toArray := by apply Array.ext'; simp
        have e2 : cap.map a.eval = (cap.toList.map a.eval).toArray := by apply Array.ext'; simp
        simp only [execOp, Instr.makeFunc, Sem.run_bind, Sem.run_pure, Result.andThen_ok, e1, e2]
      · exact hK.elim
    · exact hK.elim
  case h_16 t l c =>
    obtain ⟨u, g1, g2⟩ := ev1_sound h hf hK
    obtain ⟨v, g3, g4⟩ := ev1_sound h hf g2
    exact makeSliceS_sound hT h g1 g3 g4
  case h_17 t x lo hi mx =>
    split at hK
    · obtain ⟨u, g1, g2⟩ := ev1_sound h hf hK
      obtain ⟨lo', g3, g4⟩ := evO_sound h hf g2
      obtain ⟨hi', g5, g6⟩ := evO_sound h hf g4
      exact Gives.runs h (sliceS_sound hT g1 g3 g5 g6)
    · exact hK.elim
  case h_18 s x f =>
    obtain ⟨u, g1, g2⟩ := ev1_sound h hf hK
    obtain ⟨v, c, e1, e2, e3⟩ := fieldAddrS_sound hT g1 g2
    exact Gives.runs h ⟨v, c, e1, e2, e3⟩
  case h_19 t x f =>
    obtain ⟨u, g1, g2⟩ := ev1_sound h hf hK
    exact Gives.runs h (fieldS_sound hT g1 g2)
  case h_20 t x i =>
    obtain ⟨u, g1, g2⟩ := ev1_sound h hf hK
    obtain ⟨v, g3, g4⟩ := ev1_sound h hf g2
    obtain ⟨v, c, e1, e2, e3⟩ := indexAddrS_sound hT g1 g3 g4
    exact Gives.runs h ⟨v, c, e1, e2, e3⟩
  case h_21 t x i =>
    obtain ⟨u, g1, g2⟩ := ev1_sound h hf hK
    obtain ⟨v, g3, g4⟩ := ev1_sound h hf g2
    exact Gives.runs h (indexS_sound hT g1 g3 g4)
  case h_22 x n =>
    obtain ⟨u, g1, g2⟩ := ev1_sound h hf hK
    exact Gives.runs h (extractS_sound g1 g2)
  case h_23 c =>
    obtain ⟨callee, args, argTypes⟩ := c
    simp only at hK
    split at hK
    · rename_i b
      split at hK
      · rename_i l hl
        have hd := evL_sound h hf hl
        unfold builtinS at hK
        split at hK
        · split at hK
          · split at hK
            · rename_i x _ t hty
              have e1 : argTypes = #[t] := by apply Array.ext'; simpa using hty
              subst e1
              cases hd with
              | cons c c2 hc k1 k2 =>
                cases k2 with
                | nil k2 =>
                  subst k2
                  obtain ⟨v, c', f1, f2, f3⟩ := (lenS_sound hT type k1).1 hK
                  refine Runs.pure h (fun w => ?_) f2 f3
                  have e2 : args.map a.eval = #[c] := by apply Array.ext'; simpa using hc
                  simp only [execOp, resolve, Sem.run_bind, Sem.run_pure, Result.andThen_ok, invoke, builtin, e2, f1 w]
            · exact hK.elim
          · exact hK.elim
        · split at hK
          · split at hK
            · rename_i x _ t hty
              have e1 : argTypes = #[t] := by apply Array.ext'; simpa using hty
              subst e1
              cases hd with
              | cons c c2 hc k1 k2 =>
                cases k2 with
                | nil k2 =>
                  subst k2
                  obtain ⟨v, c', f1, f2, f3⟩ := (lenS_sound hT type k1).2 hK
                  refine Runs.pure h (fun w => ?_) f2 f3
                  have e2 : args.map a.eval = #[c] := by apply Array.ext'; simpa using hc
                  simp only [execOp, resolve, Sem.run_bind, Sem.run_pure, Result.andThen_ok, invoke, builtin, e2, f1 w]
            · exact hK.elim
          · exact hK.elim
        · split at hK
          · split at hK
            · rename_i x y _ t t' hty
              split at hK
              · rename_i et
                subst et
                have e1 : argTypes = #[t, t] := by apply Array.ext'; simpa using hty
                subst e1
                cases hd with
                | cons c c2 hc k1 k2 =>
                  cases k2 with
                  | cons d d2 hd2 k3 k4 =>
                    cases k4 with
                    | nil k4 =>
                      subst k4; subst hd2
                      have := appendS_sound hT type h k1 k3 hK
                      have e2 : args.map a.eval = #[c, d] := by apply Array.ext'; simpa using hc
                      show Runs P _ ρ w false .other K
                      refine cast ?_ this
                      congr 1
                      simp only [execOp, resolve, invoke, builtin, e2]
                      rfl
              · exact hK.elim
            · exact hK.elim
          · exact hK.elim
        · exact hK.elim
      · exact hK.elim
    · exact hK.elim
  case h_24 => exact hK.elim
end
end Go.Vex
end

/-
  VEX, part N: the plain laws of the walk, in a round's frame too.
-/
section
namespace Go.Vex

/-- No fence; in a round, or in none. -/
abbrev FR (r : Option Nat) : Fence := { Fence.wide with round := r }
theorem FR_none : FR none = Fence.wide := rfl
theorem FR_calls {r : Option Nat} {n : Nat} {P : Program} {f : FuncId} {args : Array Value} {w : World} {R : Ending → World → Prop} : CallsIn (FR r) n P f args w R ↔ Calls P f args w R :=
  callsIn_wide (n := n)
theorem FR_room (r : Option Nat) (n : Nat) : (FR r).room n := fun _ h => by simp [Fence.wide] at h
theorem rowsIn_wide {r : Option Nat} {n : Nat} {P : Program} {row : String} {args : Array Value} {w : World} {R : Value → World → Prop} (h : Rows P row args w R) : RowsIn (FR r) n P row args w R :=
  fun c cs _ => let ⟨v, w', h1, h2⟩ := h c cs; ⟨v, w', h1, stepsIn_wide.2 h2⟩
theorem semAt_of {ro : Option Nat} {ρ : Operand → Value} {o : Oper} (h : ∀ c, o.op ≠ .defer c) : Oper.semAt ro ρ o = execOp ρ o := Oper.semAt_eq ro ρ o h

theorem wpIn_of_wp {r : Option Nat} {P : Program} {o : Oper} {a : Act} {w : World} {next : Act → World → Prop} {Q : Exit → Act → World → Prop} (hd : ∀ c, o.op ≠ .defer c) (h : o.wp P a w next Q) :
    o.wpIn (FR r) 0 P a w next Q := by
  refine ⟨fun _ _ => trivial, ?_⟩
  show o.uponIn (FR r) 0 P a next Q ((o.semAt r a.eval).run P w)
  rw [semAt_of hd]
  unfold Oper.wp at h
  generalize (execOp a.eval o).run P w = x at h ⊢
  cases x with
  | ok n w' =>
    cases n with
    | enter f args => exact ⟨fun h => by simp [Fence.wide] at h, FR_calls.2 h⟩
    | row row args => exact ⟨fun h => by simp [Fence.wide] at h, rowsIn_wide h⟩
    | value v => exact h
    | skip => exact h
    | defer d => exact h
    | _ => exact h.elim
  | halt c w' =>
    cases c with
    | panic v => exact h
    | _ => exact h.elim

theorem not_defer {o : Op} (h : isDefer o = false) : ∀ c, o ≠ .defer c := by rintro c rfl; simp [isDefer] at h
theorem wpOpIn_of_wpOp {r : Option Nat} {P : Program} {ops : Array Oper} {Q : Exit → Act → World → Prop} (hQ : ¬ LetsOut Q) (hd : ∀ (i : Nat) o, ops[i]? = some o → isDefer o.op = false) {i : Nat} {K K' : Act → World → Prop}
    (hK : ∀ a w, K a w → K' a w) {a : Act} {w : World} (h : wpOp P ops Q i K a w) : wpOpIn (FR r) 0 P ops Q i K' a w := by
  unfold wpOp at h
  unfold wpOpIn
  split at h
  · rename_i e; simp only [e]; exact hK _ _ h
  · rename_i o e
    simp only [e]
    split at h
    · rename_i hw
      rw [if_pos hw]
      rcases h with h | ⟨_, h⟩
      · exact Oper.wpIn_mono hK (wpIn_of_wp (not_defer (hd i o e)) h)
      · exact absurd h hQ
    · rename_i hw
      rw [if_neg hw]
      exact ⟨fun _ _ => trivial, hK _ _ h⟩
theorem wpAnyIn_of_wpAny {r : Option Nat} {P : Program} {md : Region.Mode} {ops : Array Oper} {Q : Exit → Act → World → Prop} (hQ : ¬ LetsOut Q) (hd : ∀ (i : Nat) o, ops[i]? = some o → isDefer o.op = false) :
    ∀ (fuel : Nat) (listed : Array Bool) (a : Act) (w : World), wpAny P md ops Q fuel listed a w → wpAnyIn (FR r) 0 P md ops Q fuel listed a w
  | 0, listed, a, w, h => h
  | fuel + 1, listed, a, w, h => ⟨h.1, fun i hi => wpOpIn_of_wpOp hQ hd (fun a w h => wpAnyIn_of_wpAny hQ hd fuel _ a w h) (h.2 i hi)⟩
theorem wpIn_draw {r : Option Nat} {P : Program} {ops : Array Oper} {id : Nat} (hm : P.follows .mixedOrders = true) {Q : Exit → Act → World → Prop} {a : Act} {w : World}
    (h : wpAnyIn (FR r) 0 P .any ops Q (ops.size - 0) (listedTo ops.size 0) a (w.drewN 1)) : (Code.region id ops true).wpIn (FR r) 0 P Q a w := by
  refine wpIn_region_any hm ?_
  have e : listedTo ops.size 0 = Array.replicate ops.size false := by
    apply Array.ext (by simp [listedTo])
    intro j h1 h2
    simp [listedTo]
  rw [e] at h
  exact h
section
variable {P : Program} {ops : Array Oper}
theorem any_segIn {rr : Option Nat} {fz : Bool} {I : World → Prop} (hII : ∀ x y, DR fz x y → I x → I y) {cl : Nat → Nat} {Q : Exit → Act → World → Prop} {Q' : Act → World → Prop} (hQn : ¬ LetsOut Q) (hdn : ∀ (i : Nat) o, ops[i]? = some o → isDefer o.op = false) (hQ : ∀ a w w', DR fz w w' → Q' a w → Q' a w') (hs : Region.noSelect ops = true) (stop : Nat)
    (hlow : ∀ (k : Nat) o, ops[k]? = some o → ∀ e ∈ o.after, Region.binds .any e = true → e.on < k) (hst : stop ≤ ops.size) (start : Nat)
    (hp : ∀ k i ok oi, start ≤ k → k < i → i < stop → ops[k]? = some ok → ops[i]? = some oi → Before ops k i ∨ (ok.apart ops oi = true ∧ PairOk (cl k) (cl i)))
    (hbar : ∀ k i oi, start ≤ k → k < stop → stop ≤ i → ops[i]? = some oi → Before ops k i)
    (H : ∀ a w, Q' a w → wpAnyIn (FR rr) 0 P .any ops Q (ops.size - stop) (listedTo ops.size stop) a w) :
    ∀ (rem : List Nat) (listed : Array Bool) (a : Act) (w : World), Down ops listed → rem.Pairwise (· < ·) → (∀ j, j ∈ rem ↔ (j < ops.size ∧ listed.getD j false = false ∧ j < stop)) → (∀ j, j ∈ rem → start ≤ j) →
      (∀ j, stop ≤ j → listed.getD j false = false) → listed.size = ops.size → I w → LexOk P ops fz I cl Q' rem a w → wpAnyIn (FR rr) 0 P .any ops Q (ops.size - stop + rem.length) listed a w := by
  intro rem
  generalize hlen : rem.length = len
  induction len generalizing rem with
  | zero =>
    intro listed a w hd hsorted hrem hstart habove hsz hI h
    have : rem = [] := List.length_eq_zero_iff.1 hlen
    subst this
    have e : listed = listedTo ops.size stop := listedTo_ext hsz fun j hj => by
      by_cases hjs : j < stop
      · simp only [hjs, decide_true]
        cases hl : listed.getD j false with
        | true => rfl
        | false => have := (hrem j).2 ⟨hj, hl, hjs⟩; simp at this
      · rw [habove j (by omega)]; simp [hjs]
    rw [e]
    exact H a w h
  | succ len ih =>
    intro listed a w hd hsorted hrem hstart habove hsz hI h
    show wpAnyIn (FR rr) 0 P .any ops Q (ops.size - stop + len + 1) listed a w
    refine ⟨fun hr => ?_, fun i hi => ?_⟩
    · cases rem with
      | nil => simp at hlen
      | cons k r =>
        exfalso
        have hk := (hrem k).1 (by simp)
        have hmem : k ∈ Region.ready .any ops listed := by
          rw [mem_ready]
          refine ⟨by have := hk.2.1; simp [hsz, hk.1] at this ⊢; exact this, ops[k]'hk.1, by simp [hk.1], ?_⟩
          intro e he hb
          have hek := hlow k _ (by simp [hk.1]) e he hb
          cases hl : listed.getD e.on false with
          | true => rfl
          | false =>
            have hm := (hrem e.on).2 ⟨by omega, hl, by omega⟩
            rcases List.mem_cons.1 hm with hm | hm
            · omega
            · have := (List.pairwise_cons.1 hsorted).1 e.on hm; omega
        rw [hr] at hmem; simp at hmem
    · obtain ⟨h0, oi, hoi, hall⟩ := mem_ready.1 hi
      have hlt := (Array.getElem?_eq_some_iff.1 hoi).1
      have histop : i < stop := by
        rcases Nat.lt_or_ge i stop with hi' | hi'
        · exact hi'
        · exfalso
          cases rem with
          | nil => simp at hlen
          | cons k r =>
            have hk := (hrem k).1 (by simp)
            have := before_sound hd k i oi hoi (hbar k i oi (hstart k (by simp)) hk.2.2 hi' hoi) hall
            rw [hk.2.1] at this; cases this
      have hmem : i ∈ rem := (hrem i).2 ⟨hlt, by simp [hsz, hlt] at h0 ⊢; exact h0, histop⟩
      obtain ⟨pre, post, rfl⟩ := List.append_of_mem hmem
      rw [List.pairwise_append] at hsorted
      obtain ⟨s1, s2, s3⟩ := hsorted
      have hfront := LexOk.front hs hoi pre post a w (fun k hk => by
        have hklt : k < i := s3 k hk i (by simp)
        have hk' := (hrem k).1 (by simp [hk])
        have hok : ops[k]? = some (ops[k]'hk'.1) := by simp [hk'.1]
        refine ⟨_, hok, ?_⟩
        rcases hp k i _ oi (hstart k (by simp [hk])) hklt histop hok hoi with h1 | h1
        · have := before_sound hd k i oi hoi h1 hall
          rw [hk'.2.1] at this; cases this
        · exact h1) hI h
      obtain ⟨o, B, e1, c1, n1, g1, g2, g3⟩ := hfront
      rw [hoi] at e1; cases e1
      refine wpOpIn_of_wpOp hQn hdn (fun _ _ h => h) (wpOp_of_run hoi g1 g2 fun v w' n hr => ?_)
      have hnot : i ∉ pre ++ post := by
        intro hm
        rcases List.mem_append.1 hm with hm | hm
        · have := s3 i hm i (by simp); omega
        · rw [List.pairwise_cons] at s2
          have := s2.1 i hm; omega
      refine ih (pre ++ post) (by simp at hlen ⊢; omega) (listed.setIfInBounds i true) _ _ ?_ ?_ ?_ (fun j hj => hstart j (by simp at hj ⊢; rcases hj with hj | hj <;> simp [hj])) ?_ (by simp [hsz]) (hII _ _ (DR.drewN fz _ n) (c1.keep _ _ _ hI g1 hr)) (LexOk.dr hQ _ _ _ _ (DR.drewN fz _ n) (g3 v w' hr))
      · intro j o' ho' hj e he hb
        by_cases hij : i = j
        · subst hij
          rw [hoi] at ho'; cases ho'
          exact getD_set_true (hall e he hb)
        · rw [getD_set_ne false hij] at hj
          exact getD_set_true (hd j o' ho' hj e he hb)
      · rw [List.pairwise_append]
        rw [List.pairwise_cons] at s2
        exact ⟨s1, s2.2, fun x hx y hy => s3 x hx y (by simp [hy])⟩
      · intro j
        by_cases hij : i = j
        · subst hij
          constructor
          · intro hm; exact absurd hm hnot
          · rintro ⟨_, hm, _⟩
            simp [hsz, hlt] at hm
        · rw [getD_set_ne false hij, ← hrem j]
          simp only [List.mem_append, List.mem_cons]
          constructor
          · rintro (h | h)
            · exact .inl h
            · exact .inr (.inr h)
          · rintro (h | h | h)
            · exact .inl h
            · exact absurd h.symm hij
            · exact .inr h
      · intro j hj
        rw [getD_set_ne false (by omega)]; exact habove j hj

/-- From one number to another: those operations, in whatever order. -/
theorem wpAnyIn_seg {rr : Option Nat} {fz : Bool} {I : World → Prop} (hII : ∀ x y, DR fz x y → I x → I y) {cl : Nat → Nat} {Q : Exit → Act → World → Prop} {Q' : Act → World → Prop} (hQn : ¬ LetsOut Q) (hdn : ∀ (i : Nat) o, ops[i]? = some o → isDefer o.op = false) (hQ : ∀ a w w', DR fz w w' → Q' a w → Q' a w') (hs : Region.noSelect ops = true) (stop : Nat)
    (hlow : ∀ (k : Nat) o, ops[k]? = some o → ∀ e ∈ o.after, Region.binds .any e = true → e.on < k) (hst : stop ≤ ops.size) (start : Nat) (hss : start ≤ stop)
    (hp : ∀ k i ok oi, start ≤ k → k < i → i < stop → ops[k]? = some ok → ops[i]? = some oi → Before ops k i ∨ (ok.apart ops oi = true ∧ PairOk (cl k) (cl i)))
    (hbar : ∀ k i oi, start ≤ k → k < stop → stop ≤ i → ops[i]? = some oi → Before ops k i)
    (H : ∀ a w, Q' a w → wpAnyIn (FR rr) 0 P .any ops Q (ops.size - stop) (listedTo ops.size stop) a w) {a : Act} {w : World} (hI : I w)
    (h : LexOk P ops fz I cl Q' (List.range' start (stop - start)) a w) : wpAnyIn (FR rr) 0 P .any ops Q (ops.size - start) (listedTo ops.size start) a w := by
  have := any_segIn (rr := rr) hII hQn hdn hQ hs stop hlow hst start hp hbar H (List.range' start (stop - start)) (listedTo ops.size start) a w (down_listedTo hlow start) (List.pairwise_lt_range' (s := start) (n := stop - start) (step := 1) (by omega))
    (fun j => by
      rw [List.mem_range'_1]
      constructor
      · intro hj
        refine ⟨by omega, ?_, by omega⟩
        rw [listedTo_getD (by omega)]; simp; omega
      · rintro ⟨h1, h2, h3⟩
        rw [listedTo_getD h1] at h2
        simp at h2; omega)
    (fun j hj => by rw [List.mem_range'_1] at hj; omega)
    (fun j hj => by
      by_cases hjs : j < ops.size
      · rw [listedTo_getD hjs]; simp; omega
      · simp [listedTo, hjs])
    (listedTo_size _ _) hI h
  rw [List.length_range', show ops.size - stop + (stop - start) = ops.size - start by omega] at this
  exact this

/-- One operation that nothing else may pass. -/
theorem wpAnyIn_bar {rr : Option Nat} {Q : Exit → Act → World → Prop} (k : Nat) (hlow : ∀ (k : Nat) o, ops[k]? = some o → ∀ e ∈ o.after, Region.binds .any e = true → e.on < k) {o : Oper} (hk : ops[k]? = some o)
    (hbar : ∀ i oi, k < i → ops[i]? = some oi → Before ops k i) {a : Act} {w : World}
    (h : wpOpIn (FR rr) 0 P ops Q k (wpAnyIn (FR rr) 0 P .any ops Q (ops.size - (k + 1)) (listedTo ops.size (k + 1))) a w) : wpAnyIn (FR rr) 0 P .any ops Q (ops.size - k) (listedTo ops.size k) a w := by
  have hlt := (Array.getElem?_eq_some_iff.1 hk).1
  rw [show ops.size - k = ops.size - (k + 1) + 1 by omega]
  have hready : ∀ i, i ∈ Region.ready .any ops (listedTo ops.size k) → i = k := by
    intro i hi
    obtain ⟨h0, oi, hoi, hall⟩ := mem_ready.1 hi
    have hil := (Array.getElem?_eq_some_iff.1 hoi).1
    rcases Nat.lt_trichotomy i k with hik | hik | hik
    · simp [listedTo, hil] at h0; omega
    · exact hik
    · have := before_sound (down_listedTo hlow k) k i oi hoi (hbar i oi hik hoi) hall
      rw [listedTo_getD hlt] at this; simp at this
  have hkr : k ∈ Region.ready .any ops (listedTo ops.size k) := by
    rw [mem_ready]
    refine ⟨by simp [listedTo, hlt], o, hk, fun e he hb => ?_⟩
    have := hlow k o hk e he hb
    rw [listedTo_getD (by omega)]; simpa using this
  have hset : (listedTo ops.size k).setIfInBounds k true = listedTo ops.size (k + 1) := listedTo_ext (by simp [listedTo]) fun j hj => by
    by_cases hjk : k = j
    · subst hjk; simp [listedTo, hj]
    · rw [getD_set_ne false hjk, listedTo_getD hj]
      have : (j < k) ↔ (j < k + 1) := by omega
      simp [this]
  refine ⟨fun h0 => ?_, fun i hi => ?_⟩
  · rw [h0] at hkr; simp at hkr
  · rw [hready i hi, hset]; exact h

theorem wpAnyIn_end {rr : Option Nat} {Q : Exit → Act → World → Prop} {a : Act} {w : World} (h : Q .normal a w) : wpAnyIn (FR rr) 0 P .any ops Q (ops.size - ops.size) (listedTo ops.size ops.size) a w := by
  rw [Nat.sub_self]
  refine ⟨?_, h⟩
  apply List.eq_nil_iff_forall_not_mem.2
  intro j hj
  obtain ⟨h0, o, ho, _⟩ := mem_ready.1 hj
  have hlt := (Array.getElem?_eq_some_iff.1 ho).1
  simp [listedTo, hlt] at h0

end
section
variable {P : Program} {b : Frame} {a : Act} {k : List Item} {cs : List Frame} {w : World}
theorem stepR_scope {c : Code} : step P (lone (b.atR a (.code (.scope c) :: k)) cs w) = .next (lone (b.atR a (.code c :: .inScope c :: k)) cs w) :=
  step_lone_go (by simp [stepG, stepG.exec, Frame.atR])
theorem stepR_inScope {c : Code} : step P (lone (b.atR a (.inScope c :: k)) cs w) = .next (lone (b.atR a k) cs w) :=
  step_lone_go (by simp [stepG, stepG.exec, Frame.atR])
end
theorem wpIn_scope {F : Fence} {n : Nat} {P : Program} {c : Code} {Q : Exit → Act → World → Prop} {a : Act} {w : World} (h : c.wpIn F n P (Exit.noGoto Q) a w) : (Code.scope c).wpIn F n P Q a w := by
  intro b k cs hro hb hr
  obtain ⟨e, a₁, w₁, hq, harr⟩ := h b (.inScope c :: k) cs hro hb hr
  have s1 : StepsIn (Machine.fenced P F) P (lone (b.atR a (.code (.scope c) :: k)) cs w) (lone (b.atR a (.code c :: .inScope c :: k)) cs w) := .one (fenced_calm hb hr rfl) stepR_scope
  cases e with
  | normal => exact ⟨.normal, a₁, w₁, hq, StepsIn.trans s1 (StepsIn.trans harr (.one (fenced_calm hb hr rfl) stepR_inScope))⟩
  | exit id => exact ⟨.exit id, a₁, w₁, hq, .of_steps s1 ⟨fun k' hk => harr.1 k' (by simp [exitTo, hk]), fun h1 h2 => harr.2 h1 (by simp [exitTo, h2])⟩⟩
  | goto l => exact hq.elim
  | ret => exact ⟨.ret, a₁, w₁, hq, .of_steps s1 harr⟩
  | panic ch => exact ⟨.panic ch, a₁, w₁, hq, .of_steps s1 (show ArrivesIn (Machine.fenced P F) P _ b k cs (.panic ch) a₁ w₁ from harr)⟩
  | outgrown => exact ⟨.outgrown, a₁, w₁, hq, .of_steps s1 (show ArrivesIn (Machine.fenced P F) P _ b k cs .outgrown a₁ w₁ from harr)⟩
end Go.Vex
end

/-
  VEX, part 10: regions, code, functions.
-/
section
namespace Go.Vex
noncomputable section

structure St where
  fr : Fr
  hp : List Blk

/-- The program, and what is known of its types. -/
structure Kit where
  P : Program
  T : Tree
  M : MT
  hT : TOk P T
  hM : MOk P M
  hO : P.follows .mixedOrders = true

/-- What was there when a function's body began. -/
structure Env where
  ρ0 : Rho
  w0 : World
  nt : Nat
  rd : Option Nat

def SSat (E : Env) (q : Bool) (st : St) (a : Act) (w : World) : Prop :=
  ∃ ρ, Ext E.ρ0 ρ ∧ FSat ρ (E.nt, E.rd) st.fr a ∧ HSat ρ st.hp w ∧ Kept E.w0 w ∧ (q = true → ∃ n, w = E.w0.drewN n)

inductive Ex where
  | normal
  | exit (id : Nat)
  | ret

def Lift (E : Env) (Q : Bool → Ex → St → Prop) : Exit → Act → World → Prop
  | .normal, a, w => ∃ q st, SSat E q st a w ∧ Q q .normal st
  | .exit id, a, w => ∃ q st, SSat E q st a w ∧ Q q (.exit id) st
  | .ret, a, w => ∃ q st, SSat E q st a w ∧ Q q .ret st
  | _, _, _ => False

/-- The code, from such a state on, comes to such states. (nt: how many slots; n0: how many resources there were at first.) -/
structure Ok (C : Kit) (nt n0 : Nat) (c : Code) (q : Bool) (st : St) (Q : Bool → Ex → St → Prop) : Prop where
  out : ∀ (E : Env) a w, E.nt = nt → E.ρ0.length = n0 → SSat E q st a w → c.wpIn (FR E.rd) 0 C.P (Lift E Q) a w

/-! ### Calls -/
def CallOk (P : Program) (f : Nat) : Prop := ∃ fn, P.funcs[f]? = some fn ∧ (fn.name == "runtime.NumGoroutine") = false ∧ fn.body.isNone = false

def Ends (ρ : Rho) (w : World) (K : Bool → SV → List Blk → Prop) (e : Ending) (w' : World) : Prop :=
  ∃ q ρ' v c hp', e = .returned c ∧ Ext ρ ρ' ∧ Den ρ' v c ∧ HSat ρ' hp' w' ∧ Kept w w' ∧ (q = true → ∃ n, w' = w.drewN n) ∧ K q v hp'

structure OkCall (C : Kit) (f : Nat) (args : List SV) (hp : List Blk) (K : Bool → SV → List Blk → Prop) : Prop where
  ok : CallOk C.P f
  out : ∀ ρ w vals, DenT ρ args vals → HSat ρ hp w → Calls C.P f vals.toArray w (Ends ρ w K)

/-- What is to be shown of a call. -/
abbrev Handler := Nat → List SV → List Blk → (Bool → SV → List Blk → Prop) → Prop
def HOk (C : Kit) (H : Handler) : Prop := ∀ f args hp K, H f args hp K → OkCall C f args hp K

theorem run_callFunc {P : Program} {f : Nat} (h : CallOk P f) (args : Array Value) (w : World) : (callFunc f args).run P w = .ok (.enter f args) w := by
  obtain ⟨fn, h1, h2, h3⟩ := h
  unfold callFunc
  simp only [Sem.run_bind, run_program, Result.andThen_ok, h1, h2, h3, Bool.false_eq_true, if_false, Sem.run_pure]

/-- What is called: a function, or a round's yield. -/
inductive CK where
  | fn (f : Nat)
  | yld (l : Nat)
def calleeS (M : MT) (c : Callee) (fr : Fr) (hp : List Blk) (args : List SV) (K : CK → List SV → Prop) : Prop :=
  match c with
  | .value f => ev1 fr hp f fun v => match v with
    | .fn g first cap => match g with
      | .func g => K (.fn g) (first ++ (args ++ cap))
      | .yield l => match first with
        | [] => match cap with
          | [] => K (.yld l) args
          | _ => False
        | _ => False
      | _ => False
    | _ => False
  | .invoke r name => ev1 fr hp r fun v => match v with
    | .ifc t (.p y o) => match findM M t name with
      | some g => K (.fn g) (.p y o :: args)
      | none => False
    | _ => False
  | _ => False
/-- A round, told to begin: it comes to such states. -/
structure YCall (C : Kit) (l : Nat) (args : List SV) (hp : List Blk) (K : Bool → SV → List Blk → Prop) : Prop where
  out : ∀ ρ w vals, DenT ρ args vals → HSat ρ hp w → ∃ f tmps assign body, (Instr.yield l vals.toArray).run C.P w = .ok (.round l f tmps assign body) w ∧ RoundIn Fence.wide 0 C.P l f tmps assign body w (Ends ρ w K)
/-- Operations that are met one by one. -/
def xop : Op → Bool
  | .lookup .. => true
  | .mapUpdate .. => true
  | .makeMap .. => true
  | .mapEntry .. => true
  | .entryStore .. => true
  | .range .. => true
  | .entry .. => true
  | .next .. => true
  | .typeAssert .. => true
  | .sliceToArrayPointer .. => true
  | .call c => match c.callee with
    | .builtin b => match b with
      | .copy => true
      | .delete => true
      | .clear => true
      | .min => true
      | .max => true
      | _ => false
    | _ => false
  | _ => false
/-- What an operation does, met by hand. -/
structure XOp (C : Kit) (o : Op) (fr : Fr) (hp : List Blk) (K : SV → List Blk → Prop) : Prop where
  out : ∀ ρ nt (a : Act) w (x : Oper), x.op = o → FSat ρ nt fr a → HSat ρ hp w → ∃ c w', ((execOp a.eval x).run C.P w = .ok (.value c) w' ∨ ((execOp a.eval x).run C.P w = .ok .skip w' ∧ c = undef)) ∧
    ∃ ρ' v hp', Ext ρ ρ' ∧ Den ρ' v c ∧ HSat ρ' hp' w' ∧ Kept w w' ∧ K v hp'

/-- The same, and it does not look at how much has been drawn. -/
structure XOpN (C : Kit) (o : Op) (fr : Fr) (hp : List Blk) (K : SV → List Blk → Prop) : Prop where
  out : ∀ ρ nt (a : Act) w (x : Oper), x.op = o → FSat ρ nt fr a → HSat ρ hp w → ∃ c w', w'.drawn = w.drawn ∧
    (∀ d, (execOp a.eval x).run C.P { w with drawn := d } = .ok (.value c) { w' with drawn := d } ∨ ((execOp a.eval x).run C.P { w with drawn := d } = .ok .skip { w' with drawn := d } ∧ c = undef)) ∧
    ∃ ρ' v hp', Ext ρ ρ' ∧ Den ρ' v c ∧ HSat ρ' hp' w' ∧ Kept w w' ∧ K v hp'
def isMapT (T : Tree) (t : Nat) : Bool := match T.find t with
  | some ti => match ti.kind with
    | .map _ _ => true
    | _ => false
  | none => false
/-- Is it the length of a map? -/
def mapLen (T : Tree) (o : Op) : Bool := match o with
  | .call c => match c.callee with
    | .builtin b => match b with
      | .len => match c.argTypes.toList with
        | [t] => isMapT T t
        | _ => false
      | _ => false
    | _ => false
  | _ => false
def stepS (C : Kit) (H : Handler) (T : Tree) (M : MT) (o : Op) (fr : Fr) (hp : List Blk) (q : Bool) (K : Bool → SV → List Blk → Prop) : Prop :=
  match xop o with
  | true => XOp C o fr hp (K false)
  | false => match o with
    | .call c => match c.callee with
      | .builtin _ => match mapLen T o with
        | true => XOp C o fr hp (K false)
        | false => opS T M o fr hp (K (q && quietOp o))
      | _ => match evL fr hp c.args.toList with
        | some l => calleeS M c.callee fr hp l fun k args => match k with
          | .fn f => H f args hp fun q' v hp' => K (q && q') v hp'
          | .yld y => YCall C y args hp fun q' v hp' => K (q && q') v hp'
        | none => False
    | _ => opS T M o fr hp (K (q && quietOp o))
/-- In a region that draws its order. -/
def stepD (C : Kit) (H : Handler) (T : Tree) (M : MT) (o : Op) (fr : Fr) (hp : List Blk) (q : Bool) (K : Bool → SV → List Blk → Prop) : Prop :=
  match xop o with
  | true => XOpN C o fr hp (K false)
  | false => match o with
    | .call c => match c.callee with
      | .builtin _ => opS T M o fr hp (K (q && quietOp o))
      | _ => match evL fr hp c.args.toList with
        | some l => calleeS M c.callee fr hp l fun k args => match k with
          | .fn f => H f args hp fun q' v hp' => K (q && q') v hp'
          | .yld y => YCall C y args hp fun q' v hp' => K (q && q') v hp'
        | none => False
    | _ => opS T M o fr hp (K (q && quietOp o))
theorem xop_cls {o : Op} (h : xop o = true) : clsOp o = 3 := by
  cases o <;> first | rfl | (cases h; done) | skip
  rename_i c
  obtain ⟨callee, args, tys⟩ := c
  cases callee <;> first | (cases h; done) | skip
  rename_i b
  cases b <;> first | rfl | (cases h; done)
theorem XOpN.x {C : Kit} {o : Op} {fr : Fr} {hp : List Blk} {K : SV → List Blk → Prop} (h : XOpN C o fr hp K) : XOp C o fr hp K := by
  refine ⟨fun ρ nt a w x hx hf hs => ?_⟩
  obtain ⟨c, w', hd, hr, hq⟩ := h.out ρ nt a w x hx hf hs
  refine ⟨c, w', ?_, hq⟩
  have := hr w.drawn
  rw [show ({ w' with drawn := w.drawn } : World) = w' by rw [← hd]] at this
  exact this
/-- The behaviour of such an operation. -/
def xB (w : World) (c : Value) (w' : World) : Beh := ⟨fun x => ∃ d, x = { w with drawn := d }, fun x v x' => v = c ∧ ∃ d, x = { w with drawn := d } ∧ x' = { w' with drawn := d }⟩
theorem xB_inv (w : World) (c : Value) (w' : World) : (xB w c w').Inv := by
  refine fun fz => ⟨fun x ⟨d, hx⟩ => ⟨c, _, rfl, d, hx, rfl⟩, fun x y ⟨d', hy, _⟩ ⟨d, hx⟩ => ⟨d', by rw [hy, hx]⟩, ?_⟩
  rintro x y v y' ⟨d', hy, hd⟩ ⟨hv, d, hx, rfl⟩
  have e : d' = d := by rw [hy] at hx; exact congrArg World.drawn hx
  subst e
  have hxx : x = { w with drawn := x.drawn } := by
    rw [hy] at hx
    have : ({ x with drawn := d' } : World) = { w with drawn := d' } := hx
    cases x with
    | mk a1 a2 a3 a4 a5 =>
      cases w
      simp only [World.mk.injEq] at this ⊢
      obtain ⟨h1, h2, _, h4, h5⟩ := this
      exact ⟨h1, h2, trivial, h4, h5⟩
  exact ⟨{ w' with drawn := x.drawn }, ⟨hv, x.drawn, hxx, rfl⟩, d', rfl, hd⟩

def putS (dst : Option Nat) (v : SV) (fr : Fr) : Fr :=
  match dst with
  | some d => (d, v) :: fr
  | none => fr
def dstOk (nt : Nat) (dst : Option Nat) : Bool :=
  match dst with
  | some d => decide (d < nt)
  | none => true

theorem DenT.append {ρ : Rho} : ∀ {l m : List SV} {cs ds : List Value}, DenT ρ l cs → DenT ρ m ds → DenT ρ (l ++ m) (cs ++ ds)
  | [], m, cs, ds, h, h' => by cases h with | nil h => subst h; simpa using h'
  | x :: r, m, cs, ds, h, h' => by
    cases h with
    | cons c c2 hc h1 h2 => subst hc; exact .cons c (c2 ++ ds) (by simp) h1 (h2.append h')

theorem FSat.putO {ρ : Rho} {nt : Nat × Option Nat} {fr : Fr} {a : Act} (h : FSat ρ nt fr a) {d : Option Nat} (hd : dstOk nt.1 d = true) {v : SV} {c : Value} (hv : Den ρ v c) : FSat ρ nt (putS d v fr) (a.put d c) := by
  cases d with
  | none => exact h
  | some d => exact h.put (by simpa [dstOk] using hd) hv

/-- A call: which function, with which arguments. -/
theorem calleeS_sound {C : Kit} {E : Env} {ρ : Rho} {st : St} {a : Act} {w : World} (h3 : HSat ρ st.hp w) (h2 : FSat ρ (E.nt, E.rd) st.fr a) {o : Oper} {c : Call} (ho : o.op = .call c) {K : CK → List SV → Prop}
    (h : match evL st.fr st.hp c.args.toList with
      | some l => calleeS C.M c.callee st.fr st.hp l K
      | none => False) : ∃ f vals cs, DenT ρ vals cs ∧ K f vals ∧ ∀ x, match f with
      | .fn f => CallOk C.P f → (execOp a.eval o).run C.P x = .ok (.enter f cs.toArray) x
      | .yld l => (execOp a.eval o).run C.P x = (Instr.yield l cs.toArray).run C.P x := by
  obtain ⟨dst, op, type, pos, after, guard⟩ := o
  simp only at ho
  subst ho
  obtain ⟨callee, args, argTypes⟩ := c
  split at h
  · rename_i l hl
    have hdl := evL_sound h3 h2 hl
    cases callee with
    | builtin b => exact h.elim
    | value f =>
      obtain ⟨v, g1, g2⟩ := ev1_sound h3 h2 h
      split at g2
      · rename_i g first cap
        split at g2
        · rename_i g
          cases g1 with
          | fn vs us hc k1 k2 =>
            refine ⟨.fn g, _, _, k1.append (hdl.append k2), g2, fun x hok => ?_⟩
            have e1 : args.map a.eval = (args.toList.map a.eval).toArray := by apply Array.ext'; simp
            simp only [execOp, resolve, hc, Deferred.ofValue, Sem.run_bind, Sem.run_pure, Result.andThen_ok, invoke, run_callFunc hok, e1]
            simp
        · rename_i l
          split at g2
          · split at g2
            · cases g1 with
              | fn vs us hc k1 k2 =>
                cases k1 with
                | nil h1 =>
                  cases k2 with
                  | nil h2 =>
                    subst h1; subst h2
                    refine ⟨.yld l, _, _, hdl, g2, fun x => ?_⟩
                    have e1 : args.map a.eval = (args.toList.map a.eval).toArray := by apply Array.ext'; simp
                    simp only [execOp, resolve, hc, Deferred.ofValue, Sem.run_bind, Sem.run_pure, Result.andThen_ok, invoke, e1]
                    simp
            · exact g2.elim
          · exact g2.elim
        · exact g2.elim
      · exact g2.elim
    | invoke r name =>
      obtain ⟨v, g1, g2⟩ := ev1_sound h3 h2 h
      split at g2
      · rename_i t y o
        split at g2
        · rename_i g hg
          cases g1 with
          | ifc u hc k1 =>
            have k1' := k1
            cases k1 with
            | p b o0 hx hp =>
              refine ⟨.fn g, .p y o :: l, u :: args.toList.map a.eval, .cons _ _ rfl k1' hdl, g2, fun x hok => ?_⟩
              have e1 : args.map a.eval = (args.toList.map a.eval).toArray := by apply Array.ext'; simp
              have hm := (C.hM t name g hg).2 ⟨b, o0 + o.val, none⟩ x
              subst hp
              simp only [execOp, resolve, hc, Sem.run_bind, Sem.run_pure, Result.andThen_ok, invoke, e1]
              simp [callMethod, hm, run_callFunc hok]
              rw [List.take_of_length_le (by simp)]
        · exact g2.elim
      · exact g2.elim
  · exact h.elim

theorem stepS_nd {C : Kit} {H : Handler} {T : Tree} {M : MT} {o : Op} {fr : Fr} {hp : List Blk} {q : Bool} {K : Bool → SV → List Blk → Prop} (h : stepS C H T M o fr hp q K) : isDefer o = false := by
  cases o <;> first | rfl | exact h.elim
theorem stepD_stepS {C : Kit} {H : Handler} {T : Tree} {M : MT} {o : Op} {fr : Fr} {hp : List Blk} {q : Bool} {K : Bool → SV → List Blk → Prop} (hx : xop o = false) (hc : isCall o = false) (h : stepD C H T M o fr hp q K) : opS T M o fr hp (K (q && quietOp o)) := by
  unfold stepD at h
  rw [hx] at h
  simp only at h
  cases o <;> try exact h
  rename_i c
  obtain ⟨callee, args, argTypes⟩ := c
  cases callee with
  | builtin b => exact h
  | _ => simp [isCall] at hc
theorem mapLen_no {T : Tree} {M : MT} {o : Op} {fr : Fr} {hp : List Blk} {K : SV → List Blk → Prop} (hm : mapLen T o = true) (h : opS T M o fr hp K) : False := by
  cases o <;> try (simp [mapLen] at hm; done)
  rename_i c
  obtain ⟨callee, args, argTypes⟩ := c
  cases callee <;> try (simp [mapLen] at hm; done)
  rename_i b
  cases b <;> try (simp [mapLen] at hm; done)
  unfold mapLen at hm
  simp only at hm
  split at hm
  · rename_i t ht
    unfold isMapT at hm
    unfold opS at h
    simp only at h
    split at h
    · unfold builtinS at h
      simp only at h
      split at h
      · rw [ht] at h
        simp only at h
        unfold lenS at h
        cases hf : T.find t with
        | none => rw [hf] at hm; cases hm
        | some ti =>
          rw [hf] at hm h
          simp only at hm h
          cases hk : ti.kind <;> rw [hk] at hm h <;> first | exact h | cases hm
      · exact h
    · exact h
  · cases hm
theorem stepS_op {C : Kit} {H : Handler} {T : Tree} {M : MT} {o : Op} {fr : Fr} {hp : List Blk} {q : Bool} {K : Bool → SV → List Blk → Prop} (hx : xop o = false) (hc : isCall o = false) (hm : mapLen T o = false) (h : stepS C H T M o fr hp q K) : opS T M o fr hp (K (q && quietOp o)) := by
  unfold stepS at h
  rw [hx] at h
  simp only at h
  cases o <;> try exact h
  rename_i c
  obtain ⟨callee, args, argTypes⟩ := c
  cases callee with
  | builtin b => simp only at h; rw [hm] at h; exact h
  | _ => simp [isCall] at hc
theorem stepS_call {C : Kit} {H : Handler} {T : Tree} {M : MT} {o : Op} {fr : Fr} {hp : List Blk} {q : Bool} {K : Bool → SV → List Blk → Prop} (hx : xop o = false) (hc : isCall o = true) (h : stepS C H T M o fr hp q K) : ∃ c, o = .call c ∧
    (match evL fr hp c.args.toList with
      | some l => calleeS M c.callee fr hp l fun k args => match k with
        | .fn f => H f args hp fun q' v hp' => K (q && q') v hp'
        | .yld y => YCall C y args hp fun q' v hp' => K (q && q') v hp'
      | none => False) := by
  unfold stepS at h
  rw [hx] at h
  simp only at h
  cases o <;> try simp [isCall] at hc
  rename_i c
  obtain ⟨callee, args, argTypes⟩ := c
  cases callee with
  | builtin b => cases hc
  | _ => exact ⟨_, rfl, h⟩
theorem stepD_S {C : Kit} {H : Handler} {T : Tree} {M : MT} {o : Op} {fr : Fr} {hp : List Blk} {q : Bool} {K : Bool → SV → List Blk → Prop} (h : stepD C H T M o fr hp q K) : stepS C H T M o fr hp q K := by
  unfold stepD at h
  unfold stepS
  cases hx : xop o with
  | true => rw [hx] at h; exact XOpN.x h
  | false =>
    rw [hx] at h
    clear hx
    simp only at h ⊢
    cases o <;> try exact h
    rename_i c
    obtain ⟨callee, args, argTypes⟩ := c
    cases callee with
    | builtin b =>
      simp only at h ⊢
      split
      · rename_i hm; exact (mapLen_no hm h).elim
      · exact h
    | _ => exact h
theorem xop_sound {C : Kit} {E : Env} {o : Oper} {q : Bool} {st : St} {K : SV → List Blk → Prop} {next : Act → World → Prop} {Q : Exit → Act → World → Prop} {a : Act} {w : World}
    (hs : SSat E q st a w) (hd : dstOk E.nt o.dst = true) (h : XOp C o.op st.fr st.hp K)
    (hn : ∀ v hp' a' w', SSat E false ⟨putS o.dst v st.fr, hp'⟩ a' w' → K v hp' → next a' w') : o.wp C.P a w next Q := by
  obtain ⟨ρ, h1, h2, h3, h4, h5⟩ := hs
  obtain ⟨c, w', hr, ρ', v, hp', g2, g3, g4, g5, g6⟩ := h.out ρ _ a w o rfl h2 h3
  have fin : next (a.put o.dst c) w' := hn v hp' _ w' ⟨ρ', h1.trans g2, (h2.mono g2).putO hd g3, g4, h4.trans g5, fun e => by cases e⟩ g6
  unfold Oper.wp
  rcases hr with hr | ⟨hr, hc⟩
  · rw [hr]; exact fin
  · rw [hr]; subst hc; exact fin
theorem op_sound {C : Kit} {E : Env} {o : Oper} {q : Bool} {st : St} {K : Bool → SV → List Blk → Prop} {next : Act → World → Prop} {Q : Exit → Act → World → Prop} {a : Act} {w : World}
    (hs : SSat E q st a w) (hd : dstOk E.nt o.dst = true) (h : opS C.T C.M o.op st.fr st.hp (K (q && quietOp o.op)))
    (hn : ∀ q' v hp' a' w', SSat E q' ⟨putS o.dst v st.fr, hp'⟩ a' w' → K q' v hp' → next a' w') : o.wp C.P a w next Q := by
  obtain ⟨ρ, h1, h2, h3, h4, h5⟩ := hs
  obtain ⟨B, g1, _, g0, _, gr⟩ := opS_sound C.hT C.hM h3 h2 o h
  have g1 := g1 w g0
  have fin : ∀ c w', B.rel w c w' → next (a.put o.dst c) w' := by
    intro c w' hr
    obtain ⟨ρ', v, hp', g2, g3, g4, g5, g6, g7⟩ := gr c w' hr
    refine hn _ v hp' _ w' ⟨ρ', h1.trans g2, (h2.mono g2).putO hd g3, g4, h4.trans g5, fun e => ?_⟩ g7
    simp only [Bool.and_eq_true] at e
    obtain ⟨n, hn⟩ := h5 e.1
    rw [g6 e.2]; exact ⟨n, hn⟩
  unfold Oper.wp
  rcases g1 with ⟨v, x', hr, g1⟩ | ⟨x', hr, g1⟩
  · rw [g1]; exact fin v x' hr
  · rw [g1]; exact fin undef x' hr
theorem call_sound {C : Kit} {H : Handler} (hH : HOk C H) {E : Env} {o : Oper} {q : Bool} {st : St} {K : Bool → SV → List Blk → Prop} {next : Act → World → Prop} {Q : Exit → Act → World → Prop} {a : Act} {w : World}
    {ρ : Rho} (h1 : Ext E.ρ0 ρ) (h2 : FSat ρ (E.nt, E.rd) st.fr a) (h3 : HSat ρ st.hp w) (h4 : Kept E.w0 w) (h5 : q = true → ∃ n, w = E.w0.drewN n) (hd : dstOk E.nt o.dst = true) {f : Nat} {vals : List SV} {cs : List Value} (hdn : DenT ρ vals cs)
    (hok : H f vals st.hp fun q' v hp' => K (q && q') v hp') (hrun : ∀ x, CallOk C.P f → (execOp a.eval o).run C.P x = .ok (.enter f cs.toArray) x)
    (hn : ∀ q' v hp' a' w', SSat E q' ⟨putS o.dst v st.fr, hp'⟩ a' w' → K q' v hp' → next a' w') : o.wp C.P a w next Q := by
  have hok := hH _ _ _ _ hok
  unfold Oper.wp
  rw [hrun w hok.ok]
  refine (hok.out ρ w cs hdn h3).mono fun e w' he => ?_
  obtain ⟨q', ρ', v, c, hp', rfl, k2, k3, k4, k5, k6, k7⟩ := he
  refine hn _ v hp' _ w' ⟨ρ', h1.trans k2, (h2.mono k2).putO hd k3, k4, h4.trans k5, fun e => ?_⟩ k7
  simp only [Bool.and_eq_true] at e
  obtain ⟨n, hn⟩ := h5 e.1
  obtain ⟨m, hm⟩ := k6 e.2
  exact ⟨n + m, by rw [hm, hn]; simp⟩

/-- One operation, in the model. -/
theorem stepS_sound {C : Kit} {H : Handler} (hH : HOk C H) {E : Env} {o : Oper} {q : Bool} {st : St} {K : Bool → SV → List Blk → Prop} {next : Act → World → Prop} {Q : Exit → Act → World → Prop} {a : Act} {w : World}
    (hs : SSat E q st a w) (hd : dstOk E.nt o.dst = true) (h : stepS C H C.T C.M o.op st.fr st.hp q K)
    (hn : ∀ q' v hp' a' w', SSat E q' ⟨putS o.dst v st.fr, hp'⟩ a' w' → K q' v hp' → next a' w') : o.wpIn (FR E.rd) 0 C.P a w next Q := by
  have hnd := not_defer (stepS_nd h)
  cases hx : xop o.op with
  | true =>
    unfold stepS at h
    rw [hx] at h
    exact wpIn_of_wp hnd (xop_sound hs hd h fun v hp' a' w' => hn false v hp' a' w')
  | false =>
    cases hcall : isCall o.op with
    | false =>
      cases hm : mapLen C.T o.op with
      | true =>
        have h2 : XOp C o.op st.fr st.hp (K false) := by
          unfold stepS at h
          rw [hx] at h
          simp only at h
          have hm2 := hm
          unfold mapLen at hm2
          split at hm2
          · rename_i c ho
            split at hm2
            · rename_i b hb
              rw [ho] at h
              simp only [hb] at h
              rw [ho] at hm
              rw [hm] at h
              rw [ho]; exact h
            · cases hm2
          · cases hm2
        exact wpIn_of_wp hnd (xop_sound hs hd h2 fun v hp' a' w' => hn false v hp' a' w')
      | false => exact wpIn_of_wp hnd (op_sound hs hd (stepS_op hx hcall hm h) hn)
    | true =>
      obtain ⟨ρ, h1, h2, h3, h4, h5⟩ := hs
      obtain ⟨c, ho, h⟩ := stepS_call hx hcall h
      obtain ⟨k, vals, cs, hdn, hok, hrun⟩ := calleeS_sound (C := C) (E := E) (st := st) h3 h2 ho h
      cases k with
      | fn f => exact wpIn_of_wp hnd (call_sound hH h1 h2 h3 h4 h5 hd hdn hok hrun hn)
      | yld l =>
        refine ⟨fun _ _ => trivial, ?_⟩
        show o.uponIn (FR E.rd) 0 C.P a next Q ((o.semAt E.rd a.eval).run C.P w)
        rw [semAt_of hnd, hrun w]
        obtain ⟨f, tmps, assign, body, e1, e2⟩ := hok.out ρ w cs hdn h3
        rw [e1]
        refine ⟨fun h => by simp [Fence.wide] at h, (show RoundIn (FR E.rd) 0 C.P l f tmps assign body w _ from e2).mono fun e w' he => ?_⟩
        obtain ⟨q', ρ', v, c, hp', rfl, k2, k3, k4, k5, k6, k7⟩ := he
        refine hn _ v hp' _ w' ⟨ρ', h1.trans k2, (h2.mono k2).putO hd k3, k4, h4.trans k5, fun e => ?_⟩ k7
        simp only [Bool.and_eq_true] at e
        obtain ⟨n, hn⟩ := h5 e.1
        obtain ⟨m, hm⟩ := k6 e.2
        exact ⟨n + m, by rw [hm, hn]; simp⟩

theorem SSat.other {E : Env} {q : Bool} {d : Option Nat} {v v' : SV} {fr : Fr} {hp : List Blk} {a : Act} {w : World} (hd : dstOk E.nt d = true) (h : SSat E q ⟨putS d v fr, hp⟩ a w) (hv : ∀ ρ c, Den ρ v c → Den ρ v' c) : SSat E q ⟨putS d v' fr, hp⟩ a w := by
  obtain ⟨ρ, h1, h2, h3⟩ := h
  refine ⟨ρ, h1, ?_, h3⟩
  cases d with
  | none => exact h2
  | some d =>
    have hle := h2.le
    have hdn : d ≠ 1000003 := by simp [dstOk] at hd; omega
    refine ⟨h2.size, h2.le, ?_, ?_, fun t u ht hu => ?_⟩
    · have := h2.rdk
      simp only [putS] at this ⊢
      rw [look_ne hdn] at this ⊢
      exact this
    · have := h2.marks
      simp only [putS] at this ⊢
      rw [look_ne hdn] at this ⊢
      exact this
    have := h2.val t
    simp only [putS, look] at this hu
    split at hu
    · rename_i e; subst e; cases hu; exact hv _ _ (this v ht (by simp))
    · rename_i e; exact this u ht (by rw [if_neg e]; exact hu)

/-! ### Slots that are looked at -/
structure Obs (v : SV) (K : SV → Prop) : Prop where
  out : ∃ v', (∀ ρ c, Den ρ v c → Den ρ v' c) ∧ K v'
theorem Obs.on {v : SV} {K : SV → Prop} (h : K v) : Obs v K := ⟨v, fun _ _ h => h, h⟩
theorem Obs.int {k : IntKind} {n : S Int} {K : SV → Prop} (m : S Int) (e : m.val = n.val) (h : K (.i k m)) : Obs (.i k n) K := ⟨_, fun ρ c hc => by cases hc with | i hc => exact .i (by rw [hc, e]), h⟩
theorem Obs.bool {n : S Bool} {K : SV → Prop} (m : S Bool) (e : m.val = n.val) (h : K (.b m)) : Obs (.b n) K := ⟨_, fun ρ c hc => by cases hc with | b hc => exact .b (by rw [hc, e]), h⟩
def memN : List Nat → Nat → Bool
  | [], _ => false
  | x :: r, y => if x = y then true else memN r y
def obsV (ob : List Nat) (dst : Option Nat) (v : SV) (K : SV → Prop) : Prop :=
  match dst with
  | some d => match memN ob d with
    | true => Obs v K
    | false => K v
  | none => K v
theorem obsV_sound {ob : List Nat} {dst : Option Nat} {v : SV} {K : SV → Prop} (h : obsV ob dst v K) : ∃ v', (∀ ρ c, Den ρ v c → Den ρ v' c) ∧ K v' := by
  unfold obsV at h
  split at h
  · split at h
    · exact h.out
    · exact ⟨v, fun _ _ h => h, h⟩
  · exact ⟨v, fun _ _ h => h, h⟩
/-- What is chosen by hand: the slots to be looked at; how often a loop is gone round. -/
structure Opt where
  ob : List Nat
  lf : Nat

/-! ### Regions -/
/-- Is a guarded operation carried out? -/
def wantS (all : List Oper) (g : Option (Nat × Bool)) (fr : Fr) (K : Bool → Fr → Prop) : Prop :=
  match g with
  | none => K true fr
  | some (j, want) => match all[j]? with
    | none => False
    | some o => match o.dst with
      | none => False
      | some d => match look fr d with
        | some (.b (.lit t)) => K (t == want) fr
        | some (.b (.ex t)) => Br t (fun _ => K want ((d, .b (.lit true)) :: fr)) (fun _ => K (!want) ((d, .b (.lit false)) :: fr))
        | some (.raw (.tuple _)) => K false fr
        | _ => False

def listS (C : Kit) (H : Handler) (ob : List Nat) (T : Tree) (M : MT) (nt : Nat) (all : List Oper) : List Oper → Bool → St → (Bool → Ex → St → Prop) → Prop
  | [], q, st, Q => Q q .normal st
  | o :: r, q, st, Q => if dstOk nt o.dst = true then
      wantS all o.guard st.fr fun want fr =>
        if want = true then stepS C H T M o.op fr st.hp q fun q v hp => obsV ob o.dst v fun v => listS C H ob T M nt all r q ⟨putS o.dst v fr, hp⟩ Q
        else listS C H ob T M nt all r q ⟨putS o.dst (.raw undef) fr, st.hp⟩ Q
    else False

theorem FSat.same {ρ : Rho} {nt : Nat × Option Nat} {fr : Fr} {a : Act} (h : FSat ρ nt fr a) {d : Nat} {x y : SV} (hl : look fr d = some x) (hn : ∀ l, x ≠ .tup l) (hxy : ∀ c, Den ρ x c → Den ρ y c) : FSat ρ nt ((d, y) :: fr) a := by
  obtain ⟨hd, hx⟩ := h.valN hl hn
  refine ⟨h.size, h.le, by rw [look_ne hd]; exact h.rdk, by rw [look_ne hd]; exact h.marks, fun t u ht hu => ?_⟩
  unfold look at hu
  split at hu
  · rename_i e; subst e; cases hu; exact hxy _ hx
  · exact h.val t u ht hu

theorem wantS_soundF {ρ : Rho} {nt : Nat × Option Nat} {all : Array Oper} {o : Oper} {fr0 : Fr} {a : Act} {K : Bool → Fr → Prop}
    (h2 : FSat ρ nt fr0 a) (h : wantS all.toList o.guard fr0 K) : ∃ fr, FSat ρ nt fr a ∧ K (Region.wanted o (yielded all a.tmps)) fr := by
  unfold wantS at h
  unfold Region.wanted
  split at h
  · rename_i hg; rw [hg]; exact ⟨fr0, h2, h⟩
  · rename_i j want hg
    rw [hg]
    split at h
    · exact h.elim
    · rename_i oj hj
      split at h
      · exact h.elim
      · rename_i d hd
        have hy : ∀ v, look fr0 d = some v → yielded all a.tmps j = (match a.tmps.getD d undef with | .bool b => some b | _ => none) := by
          intro v hv
          unfold yielded
          have : all[j]? = some oj := by rw [← Array.getElem?_toList]; exact hj
          simp only [this, Option.bind_some, hd]
          cases hh : a.tmps[d]? with
          | none => simp [hh, undef]
          | some c => simp only [hh, Array.getD_eq_getD_getElem?, Option.getD_some]; cases c <;> rfl
        split at h
        · rename_i t hl
          cases (h2.valN hl (by simp)).2 with
          | b hb =>
            refine ⟨fr0, h2, ?_⟩
            simp only [hy _ hl, hb, S.val_lit]
            have : (some t == some want) = (t == want) := rfl
            rw [this]; exact h
        · rename_i t hl
          cases (h2.valN hl (by simp)).2 with
          | b hb =>
            rw [Br_eq] at h
            simp only [S.val_ex] at hb
            simp only [hy _ hl, hb]
            cases t with
            | true =>
              refine ⟨_, h2.same hl (by simp) (y := .b (.lit true)) (fun c hc => by cases hc with | b hc => exact .b hc), ?_⟩
              have := h.1 rfl
              cases want <;> exact this
            | false =>
              refine ⟨_, h2.same hl (by simp) (y := .b (.lit false)) (fun c hc => by cases hc with | b hc => exact .b hc), ?_⟩
              have := h.2 rfl
              cases want <;> exact this
        · rename_i vs hl
          cases (h2.valN hl (by simp)).2 with
          | raw hb =>
            refine ⟨fr0, h2, ?_⟩
            simp only [hy _ hl, hb]
            cases want <;> exact h
        · exact h.elim

theorem wantS_sound {E : Env} {all : Array Oper} {o : Oper} {q : Bool} {st : St} {a : Act} {w : World} {K : Bool → Fr → Prop}
    (hs : SSat E q st a w) (h : wantS all.toList o.guard st.fr K) : ∃ fr, SSat E q ⟨fr, st.hp⟩ a w ∧ K (Region.wanted o (yielded all a.tmps)) fr := by
  obtain ⟨ρ, h1, h2, h3, h4, h5⟩ := hs
  obtain ⟨fr, g1, g2⟩ := wantS_soundF h2 h
  exact ⟨fr, ⟨ρ, h1, g1, h3, h4, h5⟩, g2⟩

theorem listS_sound {C : Kit} {H : Handler} (hH : HOk C H) {ob : List Nat} {E : Env} {all : Array Oper} {Q : Bool → Ex → St → Prop} : ∀ (l : List Oper) (q : Bool) (st : St) (a : Act) (w : World), SSat E q st a w → listS C H ob C.T C.M E.nt all.toList l q st Q →
    wpListIn (FR E.rd) 0 C.P all (Lift E Q) l a w
  | [], q, st, a, w, hs, h => ⟨q, st, hs, h⟩
  | o :: r, q, st, a, w, hs, h => by
    unfold listS at h
    split at h
    · rename_i hd
      obtain ⟨fr, hs', h'⟩ := wantS_sound hs h
      unfold wpListIn
      split at h'
      · rename_i hw
        rw [if_pos hw]
        exact stepS_sound hH hs' hd h' fun q' v hp' a' w' hs2 hk => by
          obtain ⟨v', e1, e2⟩ := obsV_sound hk
          exact listS_sound hH r q' _ a' w' (hs2.other hd e1) e2
      · rename_i hw
        rw [if_neg hw]
        obtain ⟨ρ, h1, h2, h3, h4, h5⟩ := hs'
        exact ⟨fun _ _ => trivial, listS_sound hH r q ⟨putS o.dst (.raw undef) fr, st.hp⟩ _ w ⟨ρ, h1, h2.putO hd (.raw rfl), h3, h4, h5⟩ h'⟩
    · exact h.elim

/-! ### Regions that draw their order -/
/-- A call that reads alone, whose value is told by what it was handed. -/
structure QCall (C : Kit) (f : Nat) (args : List SV) (hp : List Blk) (K : SV → Prop) : Prop where
  ok : CallOk C.P f
  out : ∀ ρ w vals, DenT ρ args vals → HSat ρ hp w → ∃ v c, Den ρ v c ∧ K v ∧ ∀ x, (qcB w c).ok x → Calls C.P f vals.toArray x fun e w' => e = .returned c ∧ ∃ n, w' = x.drewN n
/-- A call that touches nothing. -/
structure PCall (C : Kit) (f : Nat) (args : List SV) (K : SV → Prop) : Prop where
  ok : CallOk C.P f
  out : ∀ ρ vals, DenT ρ args vals → ∃ v c, (∀ ρ', Den ρ' v c) ∧ K v ∧ ∀ x, Calls C.P f vals.toArray x fun e w' => e = .returned c ∧ ∃ n, w' = x.drewN n
/-- What a look-up finds. -/
structure XOpR (C : Kit) (o : Op) (fr : Fr) (hp : List Blk) (K : SV → Prop) : Prop where
  out : ∀ ρ nt (a : Act) w (x : Oper), x.op = o → FSat ρ nt fr a → HSat ρ hp w → ∃ v c, Den ρ v c ∧ K v ∧ ∀ y, (mpB w c).ok y → (execOp a.eval x).run C.P y = .ok (.value c) y
/-- These blocks are not turned. -/
def keepP (ρ : Rho) (prot : List Nat) (w w' : World) : Prop := ∀ y ∈ prot, ∀ b o : Nat, ρ[y]? = some (some (b, o)) → w'.heap[b]? = w.heap[b]?
/-- A call that acts, and turns none of some blocks. -/
structure ECall (C : Kit) (f : Nat) (args : List SV) (hp : List Blk) (prot : List Nat) (K : Bool → SV → List Blk → Prop) : Prop where
  ok : CallOk C.P f
  out : ∀ ρ w vals, DenT ρ args vals → HSat ρ hp w → Calls C.P f vals.toArray w fun e w' => Ends ρ w K e w' ∧ keepP ρ prot w w'

/-- An operation, met by hand, that turns none of some blocks. -/
structure XOpE (C : Kit) (o : Op) (fr : Fr) (hp : List Blk) (prot : List Nat) (K : SV → List Blk → Prop) : Prop where
  out : ∀ ρ nt (a : Act) w (x : Oper), x.op = o → FSat ρ nt fr a → HSat ρ hp w → ∃ c w', w'.drawn = w.drawn ∧
    (∀ d, (execOp a.eval x).run C.P { w with drawn := d } = .ok (.value c) { w' with drawn := d } ∨ ((execOp a.eval x).run C.P { w with drawn := d } = .ok .skip { w' with drawn := d } ∧ c = undef)) ∧
    keepP ρ prot w w' ∧ ∃ ρ' v hp', Ext ρ ρ' ∧ Den ρ' v c ∧ HSat ρ' hp' w' ∧ Kept w w' ∧ K v hp'

def protB (D : DO) (hp : List Blk) : Bool := match D.ov with
  | false => true
  | true => D.prot.all fun y => match hp[y]? with
    | some (.cells _ _) => true
    | _ => false
def freeB (D : DO) (T : Tree) (o : Op) (fr : Fr) (hp : List Blk) (k : Nat) : Bool := match D.ov with
  | false => true
  | true => match xop o with
    | true => false
    | false => match D.z k with
      | true => match effS T o fr hp with
        | .rd y _ _ => memC D.prot y
        | .pure => true
        | _ => false
      | false => match effS T o fr hp with
        | .pure => true
        | .rd _ _ _ => true
        | .new => true
        | _ => false

def drawS (C : Kit) (H : Handler) (ob : List Nat) (D : DO) (T : Tree) (M : MT) (nt : Nat) (all : List Oper) (ps : List Nat) (n : Nat) : List Oper → Nat → Bool → St → (Bool → Ex → St → Prop) → Prop
  | [], k, q, st, Q => Q q .normal st
  | o :: r, k, q, st, Q => if (dstOk nt o.dst && protB D st.hp) = true then
      wantS all o.guard st.fr fun want fr =>
        if want = true then (match (isCall o.op || D.ov) && barB ps n k with
          | true => stepD C H T M o.op fr st.hp q fun q v hp => obsV ob o.dst v fun v => drawS C H ob D T M nt all ps n r (k + 1) (q && !D.ov) ⟨putS o.dst v fr, hp⟩ Q
          | false => match isCall o.op with
              | false => match lookD D o.op k && !D.z k with
                | true => XOpR C o.op fr st.hp fun v => drawS C H ob D T M nt all ps n r (k + 1) q ⟨putS o.dst v fr, st.hp⟩ Q
                | false => match freeB D T o.op fr st.hp k with
                  | true => stepD C H T M o.op fr st.hp q fun q v hp => obsV ob o.dst v fun v => drawS C H ob D T M nt all ps n r (k + 1) (q && !D.ov) ⟨putS o.dst v fr, hp⟩ Q
                  | false => match D.ov && (xop o.op && !D.z k) with
                    | true => XOpE C o.op fr st.hp D.prot fun v hp => obsV ob o.dst v fun v => drawS C H ob D T M nt all ps n r (k + 1) false ⟨putS o.dst v fr, hp⟩ Q
                    | false => False
              | true => match o.op with
                | .call c => match evL fr st.hp c.args.toList with
                  | some l => calleeS M c.callee fr st.hp l fun k' args => match k' with
                    | .fn f => match D.z k with
                      | true => PCall C f args fun v => drawS C H ob D T M nt all ps n r (k + 1) q ⟨putS o.dst v fr, st.hp⟩ Q
                      | false => match D.e k with
                        | true => ECall C f args st.hp D.prot fun q v hp => obsV ob o.dst v fun v => drawS C H ob D T M nt all ps n r (k + 1) false ⟨putS o.dst v fr, hp⟩ Q
                        | false => QCall C f args st.hp fun v => drawS C H ob D T M nt all ps n r (k + 1) q ⟨putS o.dst v fr, st.hp⟩ Q
                    | .yld _ => False
                  | none => False
                | _ => False)
        else drawS C H ob D T M nt all ps n r (k + 1) q ⟨putS o.dst (.raw undef) fr, st.hp⟩ Q
    else False

def barAt (D : DO) (all : Array Oper) (k : Nat) : Prop := ∃ o, all[k]? = some o ∧ (isCall o.op || D.ov) = true ∧ barB (preds all.toList) all.size k = true

theorem SSat.drewN {E : Env} {q : Bool} {st : St} {a : Act} {w : World} (h : SSat E q st a w) (n : Nat) : SSat E q st a (w.drewN n) := by
  obtain ⟨ρ, h1, h2, h3, h4, h5⟩ := h
  exact ⟨ρ, h1, h2, h3.drewN n, h4.trans (Kept.drewN w n), fun e => by obtain ⟨m, hm⟩ := h5 e; exact ⟨m + n, by rw [hm]; simp⟩⟩
theorem SSat.dr {fz : Bool} {E : Env} {q : Bool} {st : St} {a : Act} {w w' : World} (hq : fz = true → q = false) (hd : DR fz w w') (h : SSat E q st a w) : SSat E q st a w' := by
  cases fz with
  | false => obtain ⟨n, rfl⟩ := hd.more; exact h.drewN n
  | true =>
    obtain ⟨ρ, h1, h2, h3, h4, h5⟩ := h
    obtain ⟨d, rfl, _⟩ := hd
    exact ⟨ρ, h1, h2, h3.heap rfl, h4.trans ⟨rfl, rfl, rfl, Nat.le_refl _⟩, fun e => by rw [hq rfl] at e; cases e⟩
theorem SSat.weakq {E : Env} {q q' : Bool} {st : St} {a : Act} {w : World} (hq : q' = true → q = true) (h : SSat E q st a w) : SSat E q' st a w := by
  obtain ⟨ρ, h1, h2, h3, h4, h5⟩ := h
  exact ⟨ρ, h1, h2, h3, h4, fun e => h5 (hq e)⟩

/-- What holds throughout a segment: the blocks that nobody turns are as they were. -/
def Iof (D : DO) (ρs : Rho) (ws x : World) : Prop := D.ov = true → ∀ y ∈ D.prot, ∀ b o : Nat, ρs[y]? = some (some (b, o)) → b < x.heap.size ∧ x.heap[b]? = ws.heap[b]?
theorem Iof.dr {D : DO} {ρs : Rho} {ws : World} {fz : Bool} : ∀ x y, DR fz x y → Iof D ρs ws x → Iof D ρs ws y := by
  rintro x y ⟨d, rfl, _⟩ h
  exact h
theorem Iof.alloc {D : DO} {ρs : Rho} {ws : World} : ∀ x ob, Iof D ρs ws x → Iof D ρs ws (x.alloc ob) := by
  intro x ob h hv y hy b o hb
  obtain ⟨g1, g2⟩ := h hv y hy b o hb
  exact ⟨by simp; omega, by show (x.heap.push _)[b]? = _; rw [Array.getElem?_push, if_neg (by omega)]; exact g2⟩
theorem cell_alloc {x : World} {a : Addr} {c : Value} {ob : Obj} (h : x.cell? a = some c) : (x.alloc ob).cell? a = some c := by
  unfold World.cell? at h ⊢
  have key : ∀ o, x.heap[a.block]? = some o → (x.alloc ob).heap[a.block]? = some o := fun o ho => by
    have := (Array.getElem?_eq_some_iff.1 ho).1
    show (x.heap.push ob)[a.block]? = _
    rw [Array.getElem?_push, if_neg (by omega)]; exact ho
  cases hb : x.heap[a.block]? with
  | none => rw [hb] at h; simp at h
  | some o => rw [key o hb]; rw [hb] at h; exact h
theorem eff_cls {T : Tree} {o : Op} {fr : Fr} {hp : List Blk} : (∀ y f n, effS T o fr hp = .rd y f n → clsOp o = 1) ∧ (∀ y f n, effS T o fr hp = .wr y f n → clsOp o = 3) ∧ (effS T o fr hp = .new → clsOp o = 5) ∧ (effS T o fr hp ≠ .qc) ∧ (effS T o fr hp = .other → clsOp o = 3) := by
  cases o
  case call c =>
    obtain ⟨callee, args, argTypes⟩ := c
    cases callee with
    | builtin b => cases b <;> simp [effS, clsOp]
    | _ => simp [effS]
  case load t x => simp only [effS]; split <;> simp [clsOp]
  case store t x y => simp only [effS]; split <;> simp [clsOp]
  all_goals simp [effS, clsOp]
theorem isCall_cls {o : Op} (h : isCall o = false) : clsOp o ≠ 2 := by
  cases o <;> try simp [clsOp]
  rename_i c
  obtain ⟨callee, args, argTypes⟩ := c
  cases callee with
  | builtin b => cases b <;> simp [clsOp]
  | _ => simp [isCall] at h
theorem clD_nc {D : DO} {o : Op} {k : Nat} (h : clD D o k = 0) : clsOp o ≠ 2 := by
  unfold clD at h
  split at h
  · split at h
    · cases h
    · rename_i h2; exact isCall_cls (by simpa using h2)
  · split at h
    · cases h
    · split at h
      · cases h
      · omega
theorem clA_at {D : DO} {all : Array Oper} {k : Nat} {o : Oper} (h : all[k]? = some o) : clA D all k = clD D o.op k := by unfold clA; rw [h]
theorem Cls.of3 {fz : Bool} {I : World → Prop} {B : Beh} (hi : B.InvF fz) (hk : ∀ x v x', I x → B.ok x → B.rel x v x' → I x') : Cls fz I 3 B :=
  ⟨hi, hk, fun h => by omega, fun h => by simp [idC] at h, fun h => by omega, fun h => by omega, fun h => by omega, fun h => by omega⟩
theorem clsD {D : DO} {ρs ρ : Rho} {ws w : World} {T : Tree} {o : Op} {fr : Fr} {hp : List Blk} {B : Beh} {k : Nat} (hc : isCall o = false) (hi : B.Inv) (h : BOk ρ w.heap.size (effS T o fr hp) B) (hok : B.ok w) (hI : Iof D ρs ws w)
    (hx : Ext ρs ρ) (hpr : ∀ y ∈ D.prot, y < ρs.length) (hf : freeB D T o fr hp k = true) (hov : D.ov = false → D.z k = false ∧ D.e k = false) (hlk : (lookD D o k && !D.z k) = false) :
    ∃ B', Cls D.ov (Iof D ρs ws) (clD D o k) B' ∧ B'.ok w ∧ (∀ x, B'.ok x → B.ok x) ∧ B'.rel = B.rel := by
  obtain ⟨e1, e2, e3, e4, e5⟩ := eff_cls (T := T) (o := o) (fr := fr) (hp := hp)
  have keepNew : ∀ N ob mk x v x', Iof D ρs ws x → (newB N ob mk).rel x v x' → Iof D ρs ws x' := by
    rintro N ob mk x v x' hI ⟨_, rfl⟩ hv y hy b o hb
    obtain ⟨g1, g2⟩ := hI hv y hy b o hb
    exact ⟨by simp; omega, by show (x.heap.push _)[b]? = _; rw [Array.getElem?_push, if_neg (by omega)]; exact g2⟩
  have hcl : D.z k = false → clD D o k = clsOp o := by
    intro hz
    rw [hz] at hlk
    unfold clD
    rw [hz, hc, show lookD D o k = false by simpa using hlk]
    rfl
  cases hE : effS T o fr hp with
  | pure =>
    rw [hE] at h
    obtain ⟨c, rfl⟩ := h
    exact ⟨Beh.pureI _ c, Cls.pure Iof.dr Iof.alloc _ c, hI, fun _ _ => trivial, rfl⟩
  | rd y f n =>
    rw [hE] at h
    obtain ⟨b, o0, cs, u, g1, g2, rfl⟩ := h
    cases hz : D.z k with
    | false =>
      rw [hcl hz, e1 _ _ _ hE]
      refine ⟨_, ⟨hi _, ?_, fun h => by omega, fun _ => ⟨_, _, rfl⟩, fun h => by omega, fun h => by omega, fun _ x ob _ hx j c hj => cell_alloc (hx j c hj), fun h => by omega⟩, hok, fun _ h => h, rfl⟩
      rintro x v x' hI _ ⟨_, rfl⟩; exact hI
    | true =>
      have hv : D.ov = true := by
        cases hv : D.ov with
        | true => rfl
        | false => have := (hov hv).1; rw [hz] at this; cases this
      have hy : memC D.prot y = true := by
        unfold freeB at hf
        rw [hv, hz, hE] at hf
        simp only at hf
        split at hf
        · cases hf
        · exact hf
      have hym : y ∈ D.prot := by
        have : ∀ l : List Nat, memC l y = true → y ∈ l := by
          intro l
          induction l with
          | nil => intro h; cases h
          | cons a r ih =>
            intro h
            unfold memC at h
            split at h
            · rename_i e; subst e; simp
            · exact List.mem_cons_of_mem _ (ih h)
        exact this _ hy
      have hys : ρs[y]? = some (some (b, o0)) := by
        have hlt := hpr y hym
        have h1 : ρs[y]? = some ρs[y] := by simp [hlt]
        have := hx y _ h1
        rw [g1] at this
        rw [h1]; exact this.symm
      refine ⟨Beh.pureI _ u, Cls.pure Iof.dr Iof.alloc _ u, hI, fun x hIx j c hj => ?_, rfl⟩
      have hw := hok j c hj
      obtain ⟨_, k1⟩ := hI hv y hym b o0 hys
      obtain ⟨_, k2⟩ := hIx hv y hym b o0 hys
      unfold World.cell? at hw ⊢
      simp only at hw ⊢
      rw [k2, ← k1]; exact hw
  | wr y f n =>
    have hv : D.ov = false := by
      cases hv : D.ov with
      | false => rfl
      | true =>
        unfold freeB at hf
        rw [hv, hE] at hf
        simp only at hf
        split at hf
        · cases hf
        · split at hf <;> cases hf
    rw [hcl (hov hv).1, e2 _ _ _ hE]
    exact ⟨B, Cls.of3 (hi _) (fun x v x' _ _ _ h => by rw [hv] at h; cases h), hok, fun _ h => h, rfl⟩
  | new =>
    rw [hE] at h
    obtain ⟨ob, mk, rfl⟩ := h
    have hz : D.z k = false := by
      cases hv : D.ov with
      | false => exact (hov hv).1
      | true =>
        cases hz : D.z k with
        | false => rfl
        | true =>
          unfold freeB at hf
          rw [hv, hE, hz] at hf
          simp only at hf
          split at hf <;> cases hf
    rw [hcl hz, e3 hE]
    exact ⟨_, ⟨hi _, fun x v x' h _ hr => keepNew _ _ _ x v x' h hr, fun h => by omega, fun h => by simp [idC] at h, fun _ => ⟨_, _, _, rfl⟩, fun h => by omega, fun h => by omega, fun _ x v x' hr => .inr ⟨ob, hr.2⟩⟩, hok, fun _ h => h, rfl⟩
  | qc => exact absurd hE e4
  | other =>
    have hv : D.ov = false := by
      cases hv : D.ov with
      | false => rfl
      | true =>
        unfold freeB at hf
        rw [hv, hE] at hf
        simp only at hf
        split at hf
        · cases hf
        · split at hf <;> cases hf
    rw [hcl (hov hv).1, e5 hE]
    exact ⟨B, Cls.of3 (hi _) (fun x v x' _ _ _ h => by rw [hv] at h; cases h), hok, fun _ h => h, rfl⟩

def stopOf (D : DO) (all : Array Oper) : List Oper → Nat → Nat
  | [], k => k
  | o :: r, k => if (isCall o.op || D.ov) && barB (preds all.toList) all.size k then k else stopOf D all r (k + 1)
theorem stopOf_spec {D : DO} {all : Array Oper} : ∀ (l : List Oper) (k : Nat), l = all.toList.drop k → k ≤ all.size → k ≤ stopOf D all l k ∧ stopOf D all l k ≤ all.size ∧ (stopOf D all l k = all.size ∨ barAt D all (stopOf D all l k)) ∧
    (k < all.size → ¬ barAt D all k → k < stopOf D all l k)
  | [], k, hl, hk => by
    have : all.size ≤ k := by have := congrArg List.length hl; simp at this; omega
    unfold stopOf
    exact ⟨Nat.le_refl _, hk, .inl (by omega), fun _ => by omega⟩
  | o :: r, k, hl, hk => by
    have hko : all[k]? = some o := by
      have := congrArg (fun l => l[0]?) hl
      simpa using this.symm
    have hlt := (Array.getElem?_eq_some_iff.1 hko).1
    have hr : r = all.toList.drop (k + 1) := by
      have := congrArg List.tail hl
      simpa using this
    unfold stopOf
    split
    · rename_i h
      rw [Bool.and_eq_true] at h
      exact ⟨Nat.le_refl _, hk, .inr ⟨o, hko, h⟩, fun _ hn => absurd ⟨o, hko, h⟩ hn⟩
    · obtain ⟨h1, h2, h3, h4⟩ := stopOf_spec r (k + 1) hr hlt
      exact ⟨by omega, h2, h3, fun _ _ => by omega⟩

/-- A call that acts. -/
def eB (w : World) (R : Value → World → Prop) : Beh := ⟨fun x => DR true w x, fun x c x' => R c x'⟩
theorem Ends.setD {ρ : Rho} {w x y : World} {K : Bool → SV → List Blk → Prop} {e : Ending} (hx : DR true w x) (h : Ends ρ x K e y) : ∃ q ρ' v c hp', e = .returned c ∧ Ext ρ ρ' ∧ Den ρ' v c ∧ HSat ρ' hp' y ∧ Kept w y ∧ K q v hp' := by
  obtain ⟨q, ρ', v, c, hp', h1, h2, h3, h4, h5, h6, h7⟩ := h
  obtain ⟨d, rfl, _⟩ := hx
  exact ⟨q, ρ', v, c, hp', h1, h2, h3, h4, ⟨h5.os, h5.tape, h5.output, h5.size⟩, h7⟩

theorem drawS_seg {C : Kit} {H : Handler} {ob : List Nat} {D : DO} {E : Env} {all : Array Oper} {Q : Bool → Ex → St → Prop} {stop : Nat} (hov : ∀ k, D.ov = false → D.z k = false ∧ D.e k = false) {ρs : Rho} {ws : World} (hpr : D.ov = true → ∀ y ∈ D.prot, y < ρs.length)
    (hpr0 : D.ov = false → D.prot = []) : ∀ (l : List Oper) (k : Nat) (q : Bool) (st : St) (a : Act) (w : World), l = all.toList.drop k → k ≤ all.size → stopOf D all l k = stop →
    (D.ov = true → q = false) → Iof D ρs ws w → (∃ ρ, Ext ρs ρ ∧ Ext E.ρ0 ρ ∧ FSat ρ (E.nt, E.rd) st.fr a ∧ HSat ρ st.hp w ∧ Kept E.w0 w ∧ (q = true → ∃ n, w = E.w0.drewN n)) → drawS C H ob D C.T C.M E.nt all.toList (preds all.toList) all.size l k q st Q →
    LexOk C.P all D.ov (Iof D ρs ws) (clA D all) (fun a w => ∃ q st, (D.ov = true → q = false) ∧ SSat E q st a w ∧ drawS C H ob D C.T C.M E.nt all.toList (preds all.toList) all.size (all.toList.drop stop) stop q st Q) (List.range' k (stop - k)) a w
  | [], k, q, st, a, w, hl, hk, hst, hq, hI, ⟨ρ, h0, hs⟩, h => by
    subst hst
    unfold stopOf
    rw [Nat.sub_self]
    exact ⟨q, st, hq, ⟨ρ, hs⟩, by rw [← hl]; exact h⟩
  | o :: r, k, q, st, a, w, hl, hk, hst, hq, hI, hs, h => by
    have hko : all[k]? = some o := by
      have := congrArg (fun l => l[0]?) hl
      simpa using this.symm
    have hlt := (Array.getElem?_eq_some_iff.1 hko).1
    have hr : r = all.toList.drop (k + 1) := by
      have := congrArg List.tail hl
      simpa using this
    unfold stopOf at hst
    split at hst
    · subst hst
      rw [Nat.sub_self]
      obtain ⟨ρ, h0, hs⟩ := hs
      exact ⟨q, st, hq, ⟨ρ, hs⟩, by rw [← hl]; exact h⟩
    · rename_i hb
      have hks := (stopOf_spec (D := D) r (k + 1) hr hlt).1
      rw [hst] at hks
      rw [show stop - k = (stop - (k + 1)) + 1 by omega, List.range'_succ]
      have go : ∀ q' st' a' w', (D.ov = true → q' = false) → Iof D ρs ws w' → (∃ ρ, Ext ρs ρ ∧ Ext E.ρ0 ρ ∧ FSat ρ (E.nt, E.rd) st'.fr a' ∧ HSat ρ st'.hp w' ∧ Kept E.w0 w' ∧ (q' = true → ∃ n, w' = E.w0.drewN n)) →
          drawS C H ob D C.T C.M E.nt all.toList (preds all.toList) all.size r (k + 1) q' st' Q →
          LexOk C.P all D.ov (Iof D ρs ws) (clA D all) (fun a w => ∃ q st, (D.ov = true → q = false) ∧ SSat E q st a w ∧ drawS C H ob D C.T C.M E.nt all.toList (preds all.toList) all.size (all.toList.drop stop) stop q st Q) (List.range' (k + 1) (stop - (k + 1))) a' w' :=
        fun q' st' a' w' g1 g2 g3 g4 => drawS_seg hov hpr hpr0 r (k + 1) q' st' a' w' hr hlt hst g1 g2 g3 g4
      have hpr' : ∀ y ∈ D.prot, y < ρs.length := by
        cases hv : D.ov with
        | true => exact hpr hv
        | false => rw [hpr0 hv]; intro y hy; cases hy
      have hqd : ∀ q', D.ov = true → (q' && !D.ov) = false := fun q' hv => by rw [hv]; simp
      have hqw : ∀ q', (q' && !D.ov) = true → q' = true := fun q' h => by simp at h; exact h.1
      unfold drawS at h
      split at h
      · rename_i hd
        rw [Bool.and_eq_true] at hd
        have hd := hd.1
        obtain ⟨ρ, h0, h1, h2, h3, h4, h5⟩ := hs
        obtain ⟨fr, hs', h'⟩ := wantS_soundF h2 h
        split at h'
        · rename_i hw
          split at h'
          · rename_i hbar
            exact absurd hbar hb
          · split at h'
            · · rename_i hc
                split at h'
                · rename_i hlk
                  simp only [Bool.and_eq_true, Bool.not_eq_true'] at hlk
                  obtain ⟨v, u, k1, k2, k3⟩ := (show XOpR C o.op fr st.hp _ from h').out ρ _ a w o rfl hs' h3
                  have hcls : clA D all k = 1 := by rw [clA_at hko]; unfold clD; rw [hlk.2, hc, hlk.1]; rfl
                  refine ⟨o, mpB w u, hko, by rw [hcls]; exact ⟨mpB_inv w u _, fun x v x' h _ ⟨_, e⟩ => by rw [e]; exact h, fun h => by omega, fun _ => ⟨_, u, rfl⟩, fun h => by omega, fun h => by omega, fun _ x ob _ hx b o' hb => (by
                    have h1 := hx b o' hb
                    have h2 := (Array.getElem?_eq_some_iff.1 h1).1
                    show (x.heap.push _)[b]? = _
                    rw [Array.getElem?_push, if_neg (by omega)]; exact h1), fun h => by omega⟩, by rw [hcls]; intro h; omega, (fun _ _ h => h),
                    .inl ⟨hw, fun x hx => .inl ⟨u, x, ⟨rfl, rfl⟩, k3 x hx⟩⟩, ?_⟩
                  rintro c w' ⟨rfl, rfl⟩; exact go q ⟨putS o.dst v fr, st.hp⟩ _ _ hq hI ⟨ρ, h0, h1, hs'.putO hd k1, h3, h4, h5⟩ k2
                rename_i hlk
                have hlk : (lookD D o.op k && !D.z k) = false := by simpa using hlk
                split at h'
                · rename_i hfree
                  cases hx : xop o.op with
                  | true =>
                    have hv : D.ov = false := by
                      cases hv : D.ov with
                      | false => rfl
                      | true => unfold freeB at hfree; rw [hv, hx] at hfree; cases hfree
                    unfold stepD at h'
                    rw [hx] at h'
                    obtain ⟨c, w', hdr, hr, ρ', v, hp', g2, g3, g4, g5, g6⟩ := (show XOpN C o.op fr st.hp _ from h').out ρ _ a w o rfl hs' h3
                    have hcls : clA D all k = 3 := by
                      rw [(hov k hv).1] at hlk
                      rw [clA_at hko]; unfold clD; rw [(hov k hv).1, (hov k hv).2, show lookD D o.op k = false by simpa using hlk]; simpa using xop_cls hx
                    refine ⟨o, xB w c w', hko, by rw [hcls]; exact Cls.of3 (xB_inv w c w' _) (fun x v x' _ _ _ h => by rw [hv] at h; cases h), by rw [hcls]; intro h; omega, ⟨w.drawn, rfl⟩, .inl ⟨hw, fun x ⟨d, hx⟩ => ?_⟩, ?_⟩
                    · rcases hr d with h | ⟨h, hc⟩
                      · exact .inl ⟨c, _, ⟨rfl, d, hx, rfl⟩, by rw [hx]; exact h⟩
                      · exact .inr (.inl ⟨_, ⟨hc.symm, d, hx, rfl⟩, by rw [hx]; exact h⟩)
                    · rintro c' w2 ⟨rfl, d, e1, rfl⟩
                      have hd2 : d = w'.drawn := by rw [hdr]; exact (congrArg World.drawn e1).symm
                      subst hd2
                      obtain ⟨v', e2, e3⟩ := obsV_sound g6
                      exact go _ ⟨putS o.dst v' fr, hp'⟩ _ _ (hqd _) (fun h => by rw [hv] at h; cases h) ⟨ρ', h0.trans g2, h1.trans g2, (hs'.mono g2).putO hd (e2 _ _ g3), g4, h4.trans g5, fun e => by simp at e⟩ e3
                  | false =>
                    obtain ⟨B, g1, gi, g0, gb, gr⟩ := opS_sound C.hT C.hM h3 hs' o (stepD_stepS hx hc h')
                    · obtain ⟨B', b1, b2, b3, b4⟩ := clsD (k := k) hc gi gb g0 hI h0 hpr' hfree (hov k) hlk
                      refine ⟨o, B', hko, by rw [clA_at hko]; exact b1, by rw [clA_at hko]; exact clD_nc, b2, .inl ⟨hw, fun x hx => ?_⟩, fun c w' hr => ?_⟩
                      · rw [b4]
                        rcases g1 x (b3 x hx) with g | g
                        · exact .inl g
                        · exact .inr (.inl g)
                      · have hI' := b1.keep w c w' hI b2 hr
                        rw [b4] at hr
                        obtain ⟨ρ', v, hp', g2, g3, g4, g5, g6, g7⟩ := gr c w' hr
                        obtain ⟨v', e1, e2⟩ := obsV_sound g7
                        refine go _ ⟨putS o.dst v' fr, hp'⟩ _ _ (hqd _) hI' ⟨ρ', h0.trans g2, h1.trans g2, (hs'.mono g2).putO hd (e1 _ _ g3), g4, h4.trans g5, fun e => ?_⟩ e2
                        have e := hqw _ e
                        simp only [Bool.and_eq_true] at e
                        obtain ⟨n, hn⟩ := h5 e.1
                        rw [g6 e.2]; exact ⟨n, hn⟩
                · split at h'
                  · rename_i hxe
                    simp only [Bool.and_eq_true, Bool.not_eq_true'] at hxe
                    obtain ⟨hv, hx, hz⟩ := hxe
                    obtain ⟨c, w', hdr, hr, hkp, ρ', v, hp', g2, g3, g4, g5, g6⟩ := (show XOpE C o.op fr st.hp D.prot _ from h').out ρ _ a w o rfl hs' h3
                    have hcls : clA D all k = 3 := by
                      rw [hz] at hlk
                      rw [clA_at hko]; unfold clD; rw [hz, hc, show lookD D o.op k = false by simpa using hlk]; simpa using xop_cls hx
                    have hI2 : Iof D ρs ws w' := by
                      intro hv y' hy b o' hb
                      obtain ⟨i1, i2⟩ := hI hv y' hy b o' hb
                      exact ⟨Nat.lt_of_lt_of_le i1 g5.size, by rw [hkp y' hy b o' (h0 _ _ hb)]; exact i2⟩
                    refine ⟨o, xB w c w', hko, by rw [hcls]; refine Cls.of3 (xB_inv w c w' _) ?_; rintro x v x' _ _ ⟨_, d, _, rfl⟩; exact hI2, by rw [hcls]; intro h; omega, ⟨w.drawn, rfl⟩, .inl ⟨hw, fun x ⟨d, hx⟩ => ?_⟩, ?_⟩
                    · rcases hr d with h | ⟨h, hc⟩
                      · exact .inl ⟨c, _, ⟨rfl, d, hx, rfl⟩, by rw [hx]; exact h⟩
                      · exact .inr (.inl ⟨_, ⟨hc.symm, d, hx, rfl⟩, by rw [hx]; exact h⟩)
                    · rintro c' w2 ⟨rfl, d, e1, rfl⟩
                      have hd2 : d = w'.drawn := by rw [hdr]; exact (congrArg World.drawn e1).symm
                      subst hd2
                      obtain ⟨v', e2, e3⟩ := obsV_sound g6
                      exact go _ ⟨putS o.dst v' fr, hp'⟩ _ _ (fun _ => rfl) hI2 ⟨ρ', h0.trans g2, h1.trans g2, (hs'.mono g2).putO hd (e2 _ _ g3), g4, h4.trans g5, fun e => by simp at e⟩ e3
                  · exact h'.elim
            · · rename_i hc
                split at h'
                · rename_i c ho
                  have hcl : clsOp o.op = 2 := by
                    rw [ho]
                    obtain ⟨callee, args, argTypes⟩ := c
                    cases callee with
                    | builtin b =>
                      exfalso
                      rw [ho] at hc; simp [isCall] at hc
                    | _ => rfl
                  obtain ⟨k', vals, cs, hdn, hok, hrun⟩ := calleeS_sound (C := C) (E := E) (st := ⟨fr, st.hp⟩) h3 hs' ho h'
                  cases k' with
                  | yld l => exact hok.elim
                  | fn f =>
                    simp only at hok
                    split at hok
                    · rename_i hz
                      obtain ⟨v, u, k1, k2, k3⟩ := hok.out ρ cs hdn
                      have hcls : clA D all k = 7 := by rw [clA_at hko]; unfold clD; rw [hz, hc]; rfl
                      refine ⟨o, Beh.pure u, hko, by rw [hcls]; exact ⟨Beh.pure_inv u _, fun x v x' h _ ⟨_, e⟩ => by rw [e]; exact h, fun h => by omega, fun _ => ⟨_, u, rfl⟩, fun h => by omega, fun _ _ _ => trivial, fun h => by omega, fun h => by omega⟩, by rw [hcls]; intro h; omega, trivial,
                        .inl ⟨hw, fun x hx => .inr (.inr ⟨hcl, f, _, hrun x hok.ok, (k3 x).mono ?_⟩)⟩, ?_⟩
                      · rintro e w' ⟨rfl, n, rfl⟩; exact ⟨u, x, n, rfl, ⟨rfl, rfl⟩, rfl⟩
                      · rintro c w' ⟨rfl, rfl⟩; exact go q ⟨putS o.dst v fr, st.hp⟩ _ _ hq hI ⟨ρ, h0, h1, hs'.putO hd (k1 _), h3, h4, h5⟩ k2
                    · rename_i hz
                      split at hok
                      · rename_i he
                        have hvt : D.ov = true := by
                          cases hv : D.ov with
                          | true => rfl
                          | false => have := (hov k hv).2; rw [he] at this; cases this
                        have hcls : clA D all k = 3 := by rw [clA_at hko]; unfold clD; rw [hz, he, hc]; rfl
                        let R : Value → World → Prop := fun c y => ∃ (q' : Bool) (ρ' : Rho) (v : SV) (hp' : List Blk), Ext ρ ρ' ∧ Den ρ' v c ∧ HSat ρ' hp' y ∧ Kept w y ∧ (obsV ob o.dst v fun v => drawS C H ob D C.T C.M E.nt all.toList (preds all.toList) all.size r (k + 1) false ⟨putS o.dst v fr, hp'⟩ Q) ∧ keepP ρ D.prot w y
                        have hcall : ∀ x, DR true w x → Calls C.P f cs.toArray x fun e y => ∃ c, e = .returned c ∧ R c y := by
                          intro x hx
                          have hx' := hx
                          obtain ⟨d, rfl, _⟩ := hx'
                          refine (hok.out ρ { w with drawn := d } cs hdn (h3.heap rfl)).mono fun e y ⟨g1, g2⟩ => ?_
                          obtain ⟨q', ρ', v, c, hp', m1, m2, m3, m4, m5, m6⟩ := g1.setD hx
                          exact ⟨c, m1, q', ρ', v, hp', m2, m3, m4, m5, m6, g2⟩
                        have hinv : (eB w R).InvF D.ov := by
                          rw [hvt]
                          refine ⟨fun x hx => ?_, fun x y hd hx => DR.trans hx hd, fun x y v y' _ hr => ⟨y', hr, DR.refl _ _⟩⟩
                          obtain ⟨e, y, _, ⟨c, _, hR⟩, _⟩ := hcall x hx []
                          exact ⟨c, y, hR⟩
                        have hkeep : ∀ x c y, Iof D ρs ws x → (eB w R).ok x → (eB w R).rel x c y → Iof D ρs ws y := by
                          intro x c y hI' hx hR hv y' hy b o' hb
                          obtain ⟨q', ρ', v, hp', m2, m3, m4, m5, m6, m7⟩ := hR
                          obtain ⟨d, rfl, _⟩ := hx
                          obtain ⟨i1, i2⟩ := hI' hv y' hy b o' hb
                          refine ⟨Nat.lt_of_lt_of_le i1 m5.size, ?_⟩
                          rw [m7 y' hy b o' (h0 _ _ hb)]; exact i2
                        refine ⟨o, eB w R, hko, by rw [hcls]; exact Cls.of3 hinv hkeep, by rw [hcls]; intro h; omega, DR.refl _ _,
                          .inl ⟨hw, fun x hx => .inr (.inr ⟨hcl, f, _, hrun x hok.ok, (hcall x hx).mono ?_⟩)⟩, ?_⟩
                        · rintro e y ⟨c, rfl, hR⟩; exact ⟨c, y, 0, rfl, hR, rfl⟩
                        · rintro c y hR
                          have hI2 : Iof D ρs ws y := by
                            intro hv y' hy b o' hb
                            obtain ⟨q', ρ', v, hp', m2, m3, m4, m5, m6, m7⟩ := hR
                            obtain ⟨i1, i2⟩ := hI hv y' hy b o' hb
                            exact ⟨Nat.lt_of_lt_of_le i1 m5.size, by rw [m7 y' hy b o' (h0 _ _ hb)]; exact i2⟩
                          obtain ⟨q', ρ', v, hp', m2, m3, m4, m5, m6, m7⟩ := hR
                          obtain ⟨v', e2, e3⟩ := obsV_sound m6
                          exact go false ⟨putS o.dst v' fr, hp'⟩ _ _ (fun _ => rfl) hI2 ⟨ρ', h0.trans m2, h1.trans m2, (hs'.mono m2).putO hd (e2 _ _ m3), m4, h4.trans m5, fun e => by cases e⟩ e3
                      · rename_i he
                        have hcls : clA D all k = 2 := by rw [clA_at hko]; unfold clD; rw [hz, he, lookD_call (D := D) (k := k) hc]; simpa using hcl
                        obtain ⟨v, u, k1, k2, k3⟩ := hok.out ρ w cs hdn h3
                        refine ⟨o, qcB w u, hko, by rw [hcls]; exact ⟨qcB_inv w u _, fun x v x' h _ ⟨_, e⟩ => by rw [e]; exact h, fun h => by omega, fun _ => ⟨_, u, rfl⟩, fun h => by omega, fun h => by omega, fun h => by omega, fun h => by omega⟩, by rw [hcls]; intro h; omega, ⟨rfl, rfl, rfl, rfl⟩,
                          .inl ⟨hw, fun x hx => .inr (.inr ⟨hcl, f, _, hrun x hok.ok, (k3 x hx).mono ?_⟩)⟩, ?_⟩
                        · rintro e w' ⟨rfl, n, rfl⟩; exact ⟨u, x, n, rfl, ⟨rfl, rfl⟩, rfl⟩
                        · rintro c w' ⟨rfl, rfl⟩; exact go q ⟨putS o.dst v fr, st.hp⟩ _ _ hq hI ⟨ρ, h0, h1, hs'.putO hd k1, h3, h4, h5⟩ k2
                · exact h'.elim
        · rename_i hw
          refine ⟨o, Beh.pureI _ undef, hko, Cls.pure Iof.dr Iof.alloc _ _, by rw [clA_at hko]; exact clD_nc, hI, .inr ⟨by simpa using hw, rfl⟩, ?_⟩
          rintro c w' ⟨rfl, rfl⟩
          exact go q ⟨putS o.dst (.raw undef) fr, st.hp⟩ _ _ hq hI ⟨ρ, h0, h1, hs'.putO hd (.raw rfl), h3, h4, h5⟩ h'
      · exact h.elim

theorem protB_sound {D : DO} {hp : List Blk} {ρ : Rho} {w : World} (h : protB D hp = true) (hs : HSat ρ hp w) : (D.ov = true → ∀ y ∈ D.prot, y < ρ.length) ∧ Iof D ρ w w := by
  obtain ⟨ω, hs⟩ := hs
  have key : D.ov = true → ∀ y ∈ D.prot, ∃ T l, hp[y]? = some (.cells T l) := by
    intro hv y hy
    unfold protB at h
    rw [hv] at h
    have := List.all_eq_true.1 h y hy
    split at this
    · rename_i T l e; exact ⟨T, l, e⟩
    · cases this
  refine ⟨fun hv y hy => ?_, fun hv y hy b o hb => ?_⟩
  · obtain ⟨T, l, e⟩ := key hv y hy
    rw [← hs.lenh]; exact (List.getElem?_eq_some_iff.1 e).1
  · obtain ⟨T, l, e⟩ := key hv y hy
    have hy' : y < ω.length := by rw [hs.lenω, ← hs.lenh]; exact (List.getElem?_eq_some_iff.1 e).1
    have ho : ω[y]? = some ω[y] := by simp [hy']
    obtain ⟨cs, _, hc⟩ := hs.sat y _ _ _ hb ho e
    rcases hc with ⟨_, hc, _⟩ | ⟨b', e1, e2, _⟩
    · cases hc
    · cases e1
      exact ⟨hs.bnd y _ ho b (.inl (by rw [e2]; simp)), rfl⟩

theorem lift_out (E : Env) (Q : Bool → Ex → St → Prop) : ¬ LetsOut (Lift E Q) := fun ⟨a, w, h⟩ => h
theorem drawS_sound {C : Kit} {H : Handler} (hH : HOk C H) {ob : List Nat} {D : DO} {E : Env} {all : Array Oper} {Q : Bool → Ex → St → Prop} (hov : D.ov = false → (∀ k, D.z k = false ∧ D.e k = false) ∧ D.prot = []) (hchk : drawChk D all = true) : ∀ (m k : Nat) (q : Bool) (st : St) (a : Act) (w : World), all.size - k = m → k ≤ all.size → (D.ov = true → q = false) → SSat E q st a w →
    drawS C H ob D C.T C.M E.nt all.toList (preds all.toList) all.size (all.toList.drop k) k q st Q → wpAnyIn (FR E.rd) 0 C.P .any all (Lift E Q) (all.size - k) (listedTo all.size k) a w := by
  obtain ⟨c1, c2, c3⟩ := drawChk_sound hchk
  have hlow := lowB_sound c2
  intro m
  induction m using Nat.strongRecOn with
  | ind m ih =>
    intro k q st a w hm hk hq hs h
    have hqd : ∀ q', D.ov = true → (q' && !D.ov) = false := fun q' hv => by rw [hv]; simp
    have hqw : ∀ q', (q' && !D.ov) = true → q' = true := fun q' h => by simp at h; exact h.1
    rcases Nat.lt_or_ge k all.size with hlt | hge
    · have e : ∀ o, all[k]? = some o → all.toList.drop k = o :: all.toList.drop (k + 1) := by
        intro o hko
        rw [List.drop_eq_getElem_cons (by simpa using hlt)]
        congr 1
        have := (Array.getElem?_eq_some_iff.1 hko).2
        simpa using this
      by_cases hb : barAt D all k
      · obtain ⟨o, hko, hcall, hbar⟩ := hb
        obtain ⟨b1, b2⟩ := barB_sound hbar
        refine wpAnyIn_bar k hlow hko (fun i oi hi hoi => b2 i hi (Array.getElem?_eq_some_iff.1 hoi).1) ?_
        rw [e o hko] at h
        unfold drawS at h
        split at h
        · rename_i hd
          rw [Bool.and_eq_true] at hd
          have hd := hd.1
          obtain ⟨fr, hs', h'⟩ := wantS_sound hs h
          unfold wpOpIn
          simp only [hko]
          split at h'
          · rename_i hw
            rw [if_pos hw]
            rw [hcall, hbar] at h'
            exact (stepS_sound hH hs' hd (stepD_S h') fun q' v hp' a' w' hs2 hk2 => by
              obtain ⟨v', e1, e2⟩ := obsV_sound hk2
              exact ih (all.size - (k + 1)) (by omega) (k + 1) _ ⟨putS o.dst v' fr, hp'⟩ a' w' rfl (by omega) (hqd q') ((hs2.other hd e1).weakq (hqw q')) e2)
          · rename_i hw
            rw [if_neg hw]
            obtain ⟨ρ, h1, h2, h3, h4, h5⟩ := hs'
            exact ⟨fun _ _ => trivial, ih (all.size - (k + 1)) (by omega) (k + 1) q ⟨putS o.dst (.raw undef) fr, st.hp⟩ _ w rfl (by omega) hq ⟨ρ, h1, h2.putO hd (.raw rfl), h3, h4, h5⟩ h'⟩
        · exact h.elim
      · obtain ⟨t1, t2, t3, t5⟩ := stopOf_spec (D := D) _ k rfl hk
        have hko : all[k]? = some all[k] := by simp [hlt]
        have hpB : protB D st.hp = true := by
          rw [e _ hko] at h
          unfold drawS at h
          split at h
          · rename_i hd
            rw [Bool.and_eq_true] at hd
            exact hd.2
          · exact h.elim
        obtain ⟨ρ, hρ⟩ := hs
        obtain ⟨p1, p2⟩ := protB_sound hpB hρ.2.2.1
        have t6 := drawS_seg (fun k hv => (hov hv).1 k) p1 (fun hv => (hov hv).2) _ k q st a w rfl hk rfl hq p2 ⟨ρ, Ext.refl _, hρ⟩ h
        generalize stopOf D all (all.toList.drop k) k = stop at *
        have hks := t5 hlt hb
        refine wpAnyIn_seg (fz := D.ov) (I := Iof D ρ w) (cl := clA D all) Iof.dr (lift_out E Q) (drawChk_nd hchk) (Q' := fun a w => ∃ q st, (D.ov = true → q = false) ∧ SSat E q st a w ∧ drawS C H ob D C.T C.M E.nt all.toList (preds all.toList) all.size (all.toList.drop stop) stop q st Q)
          (fun a w w' hd ⟨q, st, h0, h1, h2⟩ => ⟨q, st, h0, h1.dr h0 hd, h2⟩) c1 stop hlow t2 k t1 (fun j i oj oi _ hji _ hj hi => ?_) (fun j i oi hj hjs hi hoi => ?_)
          (fun a w ⟨q, st, h0, h1, h2⟩ => ih (all.size - stop) (by omega) stop q st a w rfl t2 h0 h1 h2) p2 t6
        · exact c3 j i oj oi hji hj hi
        · have hin := (Array.getElem?_eq_some_iff.1 hoi).1
          rcases t3 with t3 | ⟨o, hso, hcall, hbar⟩
          · omega
          · obtain ⟨b1, b2⟩ := barB_sound hbar
            have hsn := (Array.getElem?_eq_some_iff.1 hso).1
            have hb1 := b1 j hjs hsn
            rcases Nat.lt_or_ge stop i with hsi | hsi
            · exact hb1.trans (b2 i hsi hin)
            · have : i = stop := by omega
              subst this; exact hb1
    · have : k = all.size := by omega
      subst this
      refine wpAnyIn_end ?_
      rw [List.drop_of_length_le (by simp)] at h
      exact ⟨q, st, hs, h⟩

end
end Go.Vex
end

/-
  VEX, part 11: a table of types is checked by computation.
-/
section
namespace Go.Vex

def zOne : SV → Value → Bool
  | .i k (.lit n), .int k' m => decide (k = k') && decide (n = m)
  | .b (.lit x), .bool y => x == y
  | .str s, .string t => s.data.toList == t.data.toList
  | .nilp, .pointer none => true
  | .nilslc, .slice none 0 0 => true
  | .nilfn, .nilFunc => true
  | .nilifc, .nilIface => true
  | .nilmap, .map none => true
  | _, _ => false
theorem zOne_sound {v : SV} {c : Value} (h : zOne v c = true) : oneC c = true ∧ Den [] v c := by
  unfold zOne at h
  split at h <;> try (simp at h; done)
  · simp only [Bool.and_eq_true, decide_eq_true_eq] at h; obtain ⟨rfl, rfl⟩ := h; exact ⟨rfl, .i rfl⟩
  · simp only [beq_iff_eq] at h; subst h; exact ⟨rfl, .b rfl⟩
  · rename_i s t
    have : s = t := by
      have := beq_iff_eq.1 h
      cases s; cases t; simp_all
    subst this; exact ⟨rfl, .str rfl⟩
  · exact ⟨rfl, .nilp rfl⟩
  · exact ⟨rfl, .nilslc rfl⟩
  · exact ⟨rfl, .nilfn rfl⟩
  · exact ⟨rfl, .nilifc rfl⟩
  · exact ⟨rfl, .nilmap rfl⟩
def okInts (k : IntKind) : List Int → List Value → Option (List Value)
  | [], cs => some cs
  | z :: zs, c :: cs => match c with
    | .int k' n => if k' = k then (if n = z then okInts k zs cs else none) else none
    | _ => none
  | _ :: _, [] => none
theorem okInts_sound {k : IntKind} : ∀ {zs : List Int} {cs ds : List Value}, okInts k zs cs = some ds → cs = zs.map (Value.int k) ++ ds
  | [], cs, ds, h => by cases h; rfl
  | z :: zs, c :: cs, ds, h => by
    unfold okInts at h
    split at h
    · split at h
      · split at h
        · rename_i e1 e2; subst e1; subst e2
          rw [okInts_sound h]; rfl
        · cases h
      · cases h
    · cases h
  | _ :: _, [], ds, h => by simp [okInts] at h
def okRow : List SV → List Value → Option (List Value)
  | [], cs => some cs
  | v :: r, c :: cs => if zOne v c = true then okRow r cs else none
  | _ :: _, [] => none
theorem okRow_sound : ∀ {l : List SV} {cs ds : List Value}, okRow l cs = some ds → ∃ c1, cs = c1 ++ ds ∧ c1.length = l.length ∧ DenL [] l c1
  | [], cs, ds, h => by cases h; exact ⟨[], rfl, rfl, .nil rfl⟩
  | v :: r, c :: cs, ds, h => by
    unfold okRow at h
    split at h
    · rename_i hz
      obtain ⟨g1, g2⟩ := zOne_sound hz
      obtain ⟨c1, rfl, e, hd⟩ := okRow_sound h
      exact ⟨c :: c1, rfl, by simp [e], .cons [c] c1 rfl (.one c rfl g1 g2) hd⟩
    · cases h
  | _ :: _, [], ds, h => by simp [okRow] at h
def okRows (w : Nat) (f : Nat → List SV) : Nat → Nat → List Value → Option (List Value)
  | 0, _, cs => some cs
  | m + 1, j, cs => if (f j).length = w then (match okRow (f j) cs with
    | some ds => okRows w f m (j + 1) ds
    | none => none) else none
theorem okRows_sound {w : Nat} {f : Nat → List SV} : ∀ {m j : Nat} {cs ds : List Value}, okRows w f m j cs = some ds → ∃ c1, cs = c1 ++ ds ∧ c1.length = m * w ∧ ∀ i, i < m → DenL [] (f (j + i)) ((c1.drop (i * w)).take w)
  | 0, j, cs, ds, h => by cases h; exact ⟨[], rfl, by simp, fun i hi => absurd hi (Nat.not_lt_zero _)⟩
  | m + 1, j, cs, ds, h => by
    unfold okRows at h
    split at h
    · rename_i hw
      split at h
      · rename_i ds1 h1
        obtain ⟨a, rfl, e1, hd⟩ := okRow_sound h1
        obtain ⟨b, rfl, e2, hb⟩ := okRows_sound h
        refine ⟨a ++ b, by simp, by rw [List.length_append, e1, e2, hw, Nat.add_mul]; omega, fun i hi => ?_⟩
        cases i with
        | zero =>
          rw [Nat.zero_mul, List.drop_zero, Nat.add_zero, List.take_append_of_le_length (by omega), List.take_of_length_le (by omega)]; exact hd
        | succ i =>
          rw [Nat.add_mul, Nat.one_mul, List.drop_append, List.drop_of_length_le (by omega), List.nil_append, show i * w + w - a.length = i * w by omega, show j + (i + 1) = j + 1 + i by omega]
          exact hb i (by omega)
      · cases h
    · cases h
def okZ : List SV → List Value → Bool
  | [], cs => cs.isEmpty
  | .ints k (.lit m) zs :: r, cs => decide (zs.length = m) && (match okInts k zs cs with | some ds => okZ r ds | none => false)
  | .rows w (.lit m) f :: r, cs => match okRows w f m 0 cs with
    | some ds => okZ r ds
    | none => false
  | v :: r, c :: cs => zOne v c && okZ r cs
  | _ :: _, [] => false
theorem okZ_sound : ∀ {l : List SV} {cs : List Value}, okZ l cs = true → DenL [] l cs := by
  intro l
  induction l with
  | nil => intro cs h; exact .nil (by simpa [okZ] using h)
  | cons v r ih =>
    intro cs h
    unfold okZ at h
    split at h
    · rename_i e; cases e
    · rename_i k m zs r' e
      cases e
      simp only [Bool.and_eq_true, decide_eq_true_eq] at h
      obtain ⟨h1, h2⟩ := h
      split at h2
      · rename_i ds hds
        exact .cons _ ds (okInts_sound hds) (.ints h1 rfl) (ih h2)
      · cases h2
    · rename_i w m f r' e
      cases e
      split at h
      · rename_i ds hds
        obtain ⟨c1, rfl, e1, e2⟩ := okRows_sound hds
        exact .cons c1 ds rfl (.rows e1 fun i hi => by simpa using e2 i hi) (ih h)
      · cases h
    · rename_i v' r' c cs' _ _ e
      cases e
      simp only [Bool.and_eq_true] at h
      obtain ⟨g1, g2⟩ := zOne_sound h.1
      exact .cons [c] cs' rfl (.one c rfl g1 g2) (ih h.2)
    · cases h

def fieldsB : List (Nat × Nat) → List Field → Bool
  | [], [] => true
  | (o, t) :: r, f :: fs => decide (f.offset = o) && (decide (f.type = t) && fieldsB r fs)
  | _, _ => false
theorem fieldsB_sound : ∀ {l : List (Nat × Nat)} {fs : List Field}, fieldsB l fs = true → fs.length = l.length ∧ ∀ (j off t : Nat), l[j]? = some (off, t) → ∃ f, fs[j]? = some f ∧ f.offset = off ∧ f.type = t
  | [], [], h => ⟨rfl, fun j off t h => by simp at h⟩
  | (o, t) :: r, f :: fs, h => by
    simp only [fieldsB, Bool.and_eq_true, decide_eq_true_eq] at h
    obtain ⟨h1, h2, h3⟩ := h
    obtain ⟨g1, g2⟩ := fieldsB_sound h3
    refine ⟨by simp [g1], fun j off t' hj => ?_⟩
    cases j with
    | zero => simp at hj; obtain ⟨rfl, rfl⟩ := hj; exact ⟨f, rfl, h1, h2⟩
    | succ j => simpa using g2 j off t' (by simpa using hj)
  | [], _ :: _, h => by simp [fieldsB] at h
  | _ :: _, [], h => by simp [fieldsB] at h

def kindB : TK → TypeDesc → Bool
  | .int k, .int k' => decide (k = k')
  | .bool, .bool => true
  | .str, .string => true
  | .ptr e, .pointer e' => decide (e = e')
  | .slice e, .slice e' => decide (e = e')
  | .array n e, .array n' e' => decide (n = n') && decide (e = e')
  | .struct fs, .struct arr => fieldsB fs arr.toList
  | .map k e, .map k' e' => decide (k = k') && decide (e = e')
  | .iface, .interface _ => true
  | .func, .func _ _ _ => true
  | .other, .struct _ => false
  | .other, .array _ _ => false
  | .other, _ => true
  | _, _ => false
theorem kindB_sound {k : TK} {d : TypeDesc} (h : kindB k d = true) : kindOk k d := by
  unfold kindB at h
  split at h <;> try (simp at h; done)
  · simp only [decide_eq_true_eq] at h; subst h; rfl
  · rfl
  · rfl
  · simp only [decide_eq_true_eq] at h; subst h; rfl
  · simp only [decide_eq_true_eq] at h; subst h; rfl
  · simp only [Bool.and_eq_true, decide_eq_true_eq] at h; obtain ⟨rfl, rfl⟩ := h; rfl
  · rename_i fs arr
    obtain ⟨g1, g2⟩ := fieldsB_sound h
    exact ⟨arr, rfl, by simpa using g1, fun j off t hj => by obtain ⟨f, e1, e2⟩ := g2 j off t hj; exact ⟨f, by rw [← Array.getElem?_toList]; exact e1, e2⟩⟩
  · simp only [Bool.and_eq_true, decide_eq_true_eq] at h; obtain ⟨rfl, rfl⟩ := h; rfl
  · exact ⟨_, rfl⟩
  · exact ⟨_, _, _, rfl⟩
  · rename_i d hd1 hd2; exact ⟨fun fs e => hd1 fs e, fun n e e' => hd2 n e e'⟩

def tiB (P : Program) (t : Nat) (ti : TI) : Bool :=
  match P.info? t with
  | none => false
  | some i => match P.underlying t with
    | none => false
    | some d => match i.zero with
      | none => false
      | some z => decide (i.size = ti.size) && (decide (i.bytes = ti.bytes) && (okZ ti.zero z.cells.toList && (kindB ti.kind d && (ti.flat.isEmpty || (flatP P 9 t == some ti.flat && !P.eqGuardType P.depth t)))))
theorem tiB_sound {P : Program} {t : Nat} {ti : TI} (h : tiB P t ti = true) : TIok P t ti := by
  unfold tiB at h
  split at h
  · cases h
  · rename_i i hi
    split at h
    · cases h
    · rename_i d hd
      split at h
      · cases h
      · rename_i z hz
        simp only [Bool.and_eq_true, decide_eq_true_eq] at h
        obtain ⟨h1, h2, h3, h4, h5⟩ := h
        refine ⟨i, d, z, hi, hd, h1, h2, hz, okZ_sound h3, kindB_sound h4, fun hne => ?_⟩
        simp only [Bool.or_eq_true, Bool.and_eq_true, List.isEmpty_iff, beq_iff_eq, Bool.not_eq_true'] at h5
        rcases h5 with h5 | h5
        · exact absurd h5 hne
        · exact h5
def Tree.allB (P : Program) : Tree → Bool
  | .leaf => true
  | .node k v l r => tiB P k v && (l.allB P && r.allB P)
theorem Tree.allB_sound {P : Program} : ∀ {T : Tree}, T.allB P = true → T.All P
  | .leaf, _ => trivial
  | .node k v l r, h => by
    simp only [Tree.allB, Bool.and_eq_true] at h
    exact ⟨tiB_sound h.1, Tree.allB_sound h.2.1, Tree.allB_sound h.2.2⟩
theorem TOk.of_allB {P : Program} {T : Tree} (h : T.allB P = true) : TOk P T := (Tree.allB_sound h).ok

theorem MOk.nil (P : Program) : MOk P [] := fun t n f h => by simp [findM] at h
theorem MOk.cons {P : Program} {M : MT} {t : Nat} {n : String} {f : Nat} (h : MOk P M)
    (h1 : ∀ a w, (nilAhead (P.types.size + Made.depth) t (.pointer (some a)) n).run P w = .ok (some false) w)
    (h2 : ∀ a w, (method (P.types.size + Made.depth) t (.pointer (some a)) n).run P w = .ok (f, .pointer (some a)) w) : MOk P ((t, n, f) :: M) := by
  intro t' n' f' hf
  unfold findM at hf
  split at hf
  · rename_i e1
    split at hf
    · rename_i e2; subst e1; subst e2; cases hf; exact ⟨h1, h2⟩
    · exact h t' n' f' hf
  · exact h t' n' f' hf
end Go.Vex
end

/-
  VEX, part 12: code, functions; calls gone into.
-/
section
namespace Go.Vex
noncomputable section

/-! ### Loops -/
/-- A loop that is under way: its body next. -/
def LoopW (r : Option Nat) (P : Program) (c : Code) (Q : Exit → Act → World → Prop) (a : Act) (w : World) : Prop :=
  ∀ (b : Frame) (k : List Item) (cs : List Frame), b.roundOf = r → ∃ e a' w', Q e a' w' ∧ ArrivesIn (Machine.fenced P (FR r)) P (lone (b.atR a (.code c :: .inLoop c :: k)) cs w) b k cs e a' w'
theorem LoopW.wp {r : Option Nat} {P : Program} {c : Code} {Q : Exit → Act → World → Prop} {a : Act} {w : World} (h : LoopW r P c Q a w) : (Code.loop c).wpIn (FR r) 0 P Q a w := by
  intro b k cs hro hb hr
  obtain ⟨e, a', w', hq, harr⟩ := h b k cs hro
  exact ⟨e, a', w', hq, .of_steps (.one (fenced_calm hb hr rfl) stepR_loop) harr⟩
theorem LoopW.round {r : Option Nat} {P : Program} {c : Code} {Q : Exit → Act → World → Prop} {a : Act} {w : World} (h : c.wpIn (FR r) 0 P (Exit.then (LoopW r P c Q) Q) a w) : LoopW r P c Q a w := by
  intro b k cs hro
  obtain ⟨e, a₁, w₁, hq, harr⟩ := h b (.inLoop c :: k) cs hro trivial (FR_room _ _)
  cases e with
  | normal =>
    obtain ⟨e₂, a₂, w₂, hq₂, harr₂⟩ := hq b k cs hro
    exact ⟨e₂, a₂, w₂, hq₂, .of_steps (StepsIn.trans harr (.one (fenced_calm (F := FR r) (n := 0) trivial (FR_room _ _) rfl) stepR_inLoop)) harr₂⟩
  | exit id => exact ⟨_, a₁, w₁, hq, .pass (x := .inLoop c) rfl (fun _ _ => .inl (by simp)) harr⟩
  | goto l => exact ⟨_, a₁, w₁, hq, .pass (x := .inLoop c) rfl (fun _ _ => .inl (by simp)) harr⟩
  | ret => exact ⟨_, a₁, w₁, hq, .pass (x := .inLoop c) rfl (fun _ _ => .inl (by simp)) harr⟩
  | panic ch => exact ⟨_, a₁, w₁, hq, .pass (x := .inLoop c) rfl (fun _ _ => .inl (by simp)) harr⟩
  | outgrown => exact ⟨_, a₁, w₁, hq, .pass (x := .inLoop c) rfl (fun _ _ => .inl (by simp)) harr⟩

structure OkLoop (C : Kit) (nt n0 : Nat) (c : Code) (q : Bool) (st : St) (Q : Bool → Ex → St → Prop) : Prop where
  out : ∀ (E : Env) a w, E.nt = nt → E.ρ0.length = n0 → SSat E q st a w → LoopW E.rd C.P c (Lift E Q) a w

/-! ### Code -/
def iterS (body : Bool → St → (Bool → Ex → St → Prop) → Prop) (fin : Bool → St → Prop) (Q : Bool → Ex → St → Prop) : Nat → Bool → St → Prop
  | 0, q, st => fin q st
  | n + 1, q, st => body q st fun q e st => match e with
    | .normal => iterS body fin Q n q st
    | .exit id => Q q (.exit id) st
    | .ret => Q q .ret st

/-- Is the walk cut ahead of a piece that begins with such a region? (Its number, and a million.) -/
def cutAt (ob : List Nat) (a : Code) : Bool :=
  match a with
  | .region id _ _ => memN ob (1000000 + id)
  | .seq x _ => cutAt ob x
  | .block _ x => cutAt ob x
  | .scope x => cutAt ob x
  | _ => false
/-- The code from a piece on that begins with such a region: the tail behind it with it. -/
def codeAt (n : Nat) : Code → Option Code
  | .seq a b => if cutAt [1000000 + n] a = true then some (.seq a b) else match codeAt n b with
    | some c => some c
    | none => codeAt n a
  | .block _ b => codeAt n b
  | .scope b => codeAt n b
  | .loop b => codeAt n b
  | .cond _ x y => match codeAt n x with
    | some c => some c
    | none => codeAt n y
  | _ => none
/-- The code from such a region on. -/
def codeFrom (n : Nat) : Code → Option Code
  | .seq a b => match a with
    | .region id _ _ => if id = n then some (.seq a b) else codeFrom n b
    | _ => match codeFrom n a with
      | some c => some c
      | none => codeFrom n b
  | .block _ b => codeFrom n b
  | .scope b => codeFrom n b
  | .loop b => codeFrom n b
  | .cond _ x y => match codeFrom n x with
    | some c => some c
    | none => codeFrom n y
  | _ => none
def codeS (C : Kit) (H : Handler) (O : Opt) (T : Tree) (M : MT) (nt n0 : Nat) (c : Code) (q : Bool) (st : St) (Q : Bool → Ex → St → Prop) : Prop :=
  match c with
  | .skip => Q q .normal st
  | .region id ops draw => match draw with
    | true => drawS C H O.ob (ovr O.ob id) T M nt ops.toList (preds ops.toList) ops.size ops.toList 0 (q && !(ovr O.ob id).ov) st Q
    | false => listS C H O.ob T M nt ops.toList ops.toList q st Q
  | .seq a b => match cutAt O.ob a with
    | true => Ok C nt n0 (.seq a b) q st Q
    | false => codeS C H O T M nt n0 a q st fun q e st => match e with
      | .normal => codeS C H O T M nt n0 b q st Q
      | .exit id => Q q (.exit id) st
      | .ret => Q q .ret st
  | .cond c x y => ev1 st.fr st.hp c fun v => match v with
    | .b (.lit t) => if t = true then codeS C H O T M nt n0 x q st Q else codeS C H O T M nt n0 y q st Q
    | .b (.ex t) => Br t (fun _ => codeS C H O T M nt n0 x q st Q) (fun _ => codeS C H O T M nt n0 y q st Q)
    | _ => False
  | .block id b => codeS C H O T M nt n0 b q st fun q e st => match e with
    | .normal => Q q .normal st
    | .exit id' => if id' = id then Q q .normal st else Q q (.exit id') st
    | .ret => Q q .ret st
  | .scope b => codeS C H O T M nt n0 b q st Q
  | .exit id => Q q (.exit id) st
  | .ret => Q q .ret st
  | .loop b => iterS (fun q st Q => codeS C H O T M nt n0 b q st Q) (fun q st => OkLoop C nt n0 b q st Q) Q O.lf q st
  | c => Ok C nt n0 c q st Q

theorem codeS_sound {C : Kit} {H : Handler} (hH : HOk C H) {O : Opt} {E : Env} : ∀ (c : Code) (q : Bool) (st : St) (Q : Bool → Ex → St → Prop) (a : Act) (w : World), drawsChkO O.ob c = true → SSat E q st a w → codeS C H O C.T C.M E.nt E.ρ0.length c q st Q → c.wpIn (FR E.rd) 0 C.P (Lift E Q) a w := by
  intro c
  induction c with
  | skip => intro q st Q a w hch hs h; exact wpIn_skip ⟨q, st, hs, h⟩
  | region id ops draw =>
    intro q st Q a w hch hs h
    cases draw with
    | true =>
      refine wpIn_draw C.hO (drawS_sound hH (ob := O.ob) (D := ovr O.ob id) ovr_off hch _ 0 (q && !(ovr O.ob id).ov) st a _ rfl (Nat.zero_le _) (fun hv => by rw [hv]; simp) ((hs.drewN 1).weakq (fun h => by simp at h; exact h.1)) ?_)
      exact h
    | false => exact wpIn_region_list (listS_sound hH ops.toList q st a w hs h)
  | seq x y ihx ihy =>
    intro q st Q a w hch hs h
    simp only [drawsChkO, Bool.and_eq_true] at hch
    unfold codeS at h
    split at h
    · exact h.out E a w rfl rfl hs
    refine wpIn_seq (wpIn_mono (ihx q st _ a w hch.1 hs h) ?_)
    intro e a' w' he
    cases e with
    | normal => obtain ⟨q', st', h1, h2⟩ := he; exact ihy q' st' Q a' w' hch.2 h1 h2
    | exit id => exact he
    | ret => exact he
    | goto l => exact he.elim
    | panic ch => exact he.elim
    | outgrown => exact he.elim
  | cond c x y ihx ihy =>
    intro q st Q a w hch hs h
    simp only [drawsChkO, Bool.and_eq_true] at hch
    unfold codeS at h
    have hs' := hs
    obtain ⟨ρ, h1, h2, h3, h4, h5⟩ := hs'
    obtain ⟨v, g1, g2⟩ := ev1_sound h3 h2 h
    split at g2
    · rename_i t
      cases g1 with
      | b hb =>
        refine wpIn_cond hb ?_
        cases t
        · exact ihy q st Q a w hch.2 hs (by simpa using g2)
        · exact ihx q st Q a w hch.1 hs (by simpa using g2)
    · rename_i t
      cases g1 with
      | b hb =>
        rw [Br_eq] at g2
        simp only [S.val_ex] at hb
        refine wpIn_cond hb ?_
        cases t
        · exact ihy q st Q a w hch.2 hs (g2.2 rfl)
        · exact ihx q st Q a w hch.1 hs (g2.1 rfl)
    · exact g2.elim
  | block id b ih =>
    intro q st Q a w hch hs h
    refine wpIn_block (wpIn_mono (ih q st _ a w hch hs h) ?_)
    intro e a' w' he
    cases e with
    | normal => exact he
    | exit id' =>
      obtain ⟨q', st', h1, h2⟩ := he
      simp only at h2
      simp only [Exit.inBlock]
      split at h2
      · rename_i e; rw [if_pos e]; exact ⟨q', st', h1, h2⟩
      · rename_i e; rw [if_neg e]; exact ⟨q', st', h1, h2⟩
    | ret => exact he
    | goto l => exact he.elim
    | panic ch => exact he.elim
    | outgrown => exact he.elim
  | scope b ih =>
    intro q st Q a w hch hs h
    refine wpIn_scope (wpIn_mono (ih q st Q a w hch hs h) ?_)
    intro e a' w' he
    cases e <;> first | exact he | exact he.elim
  | exit id => intro q st Q a w hch hs h; exact wpIn_exit ⟨q, st, hs, h⟩
  | ret => intro q st Q a w hch hs h; exact wpIn_ret ⟨q, st, hs, h⟩
  | loop b ih =>
    intro q st Q a w hch hs h
    have key : ∀ (n : Nat) (q : Bool) (st : St) (a : Act) (w : World), SSat E q st a w →
        iterS (fun q st Q => codeS C H O C.T C.M E.nt E.ρ0.length b q st Q) (fun q st => OkLoop C E.nt E.ρ0.length b q st Q) Q n q st → LoopW E.rd C.P b (Lift E Q) a w := by
      intro n
      induction n with
      | zero => intro q st a w hs h; exact h.out E a w rfl rfl hs
      | succ n ihn =>
        intro q st a w hs h
        refine LoopW.round (wpIn_mono (ih q st _ a w hch hs h) ?_)
        intro e a' w' he
        cases e with
        | normal => obtain ⟨q', st', h1, h2⟩ := he; exact ihn q' st' a' w' h1 h2
        | exit id => exact he
        | ret => exact he
        | goto l => exact he.elim
        | panic ch => exact he.elim
        | outgrown => exact he.elim
    exact (key O.lf q st a w hs h).wp
  | rangeFunc f ps as b ih1 ih2 => intro q st Q a w hch hs h; exact h.out E a w rfl rfl hs
  | label l => intro q st Q a w hch hs h; exact h.out E a w rfl rfl hs
  | goto l => intro q st Q a w hch hs h; exact h.out E a w rfl rfl hs
  | refuse s => intro q st Q a w hch hs h; exact h.out E a w rfl rfl hs

theorem Ok.of_codeS {C : Kit} {H : Handler} (hH : HOk C H) (O : Opt) {nt n0 : Nat} {c : Code} {q : Bool} {st : St} {Q : Bool → Ex → St → Prop}
    (hch : drawsChkO O.ob c = true) (h : codeS C H O C.T C.M nt n0 c q st Q) : Ok C nt n0 c q st Q := ⟨fun E a w h1 h2 hs => codeS_sound hH c q st Q a w hch hs (by subst h1; subst h2; exact h)⟩
/-- A loop's next round. -/
theorem OkLoop.round {C : Kit} {H : Handler} (hH : HOk C H) (O : Opt) {nt n0 : Nat} {c : Code} {q : Bool} {st : St} {Q : Bool → Ex → St → Prop}
    (hch : drawsChkO O.ob c = true) (h : codeS C H O C.T C.M nt n0 c q st fun q e st => match e with
      | .normal => OkLoop C nt n0 c q st Q
      | .exit id => Q q (.exit id) st
      | .ret => Q q .ret st) : OkLoop C nt n0 c q st Q := by
  refine ⟨fun E a w h1 h2 hs => ?_⟩
  subst h1; subst h2
  refine LoopW.round (wpIn_mono (codeS_sound hH c q st _ a w hch hs h) ?_)
  intro e a' w' he
  cases e with
  | normal => obtain ⟨q', st', h3, h4⟩ := he; exact h4.out E a' w' rfl rfl h3
  | exit id => exact he
  | ret => exact he
  | goto l => exact he.elim
  | panic ch => exact he.elim
  | outgrown => exact he.elim

/-! ### Functions -/
/-- Called with such arguments and resources it returns so. -/
abbrev FSpec (C : Kit) (f : Nat) (args : List SV) (hp : List Blk) (post : Bool → SV → List Blk → Prop) : Prop := OkCall C f args hp post

def argFr : List SV → Nat → Fr
  | [], _ => []
  | v :: r, k => (k, v) :: argFr r (k + 1)

theorem argFr_sound {ρ : Rho} : ∀ {l : List SV} {cs : List Value} {k : Nat} {t : Nat} {v : SV}, DenT ρ l cs → look (argFr l k) t = some v → ∃ c, k ≤ t ∧ cs[t - k]? = some c ∧ Den ρ v c
  | [], cs, k, t, v, h, hv => by simp [argFr, look] at hv
  | x :: r, cs, k, t, v, h, hv => by
    cases h with
    | cons c c2 hc h1 h2 =>
      subst hc
      unfold argFr look at hv
      split at hv
      · rename_i e; subst e; cases hv; exact ⟨c, Nat.le_refl _, by simp, h1⟩
      · obtain ⟨c', e1, e2, e3⟩ := argFr_sound h2 hv
        exact ⟨c', by omega, by rw [show t - k = (t - (k + 1)) + 1 by omega]; simpa using e2, e3⟩

/-- What a function hands back. -/
def resS (T : Tree) (rs : List ResultVar) (fr : Fr) (hp : List Blk) (K : List SV → Prop) : Prop :=
  match rs with
  | [] => K []
  | .tmp t :: r => match ev fr hp (.tmp t) with
    | some v => resS T r fr hp fun l => K (v :: l)
    | none => False
  | .cell t ty :: r => match ev fr hp (.tmp t) with
    | some (.p y o) => loadS T ty hp y o fun v => resS T r fr hp fun l => K (v :: l)
    | _ => False
def tupS (l : List SV) : SV :=
  match l with
  | [v] => v
  | l => .tup l

def resOne (tmps : Array Value) : ResultVar → Sem Value
  | .tmp t => pure (tmps.getD t undef)
  | .cell x t => do loadVar t (← asAddr (tmps.getD x undef))
theorem results_eq (fn : Func) (tmps : Array Value) : results fn tmps = (do let vs ← fn.results.mapM (resOne tmps); pure (if h : vs.size = 1 then vs[0] else .tuple vs)) := by
  have : (fun r => resOne tmps r) = (fun r => match r with
      | .tmp t => pure (tmps.getD t undef)
      | .cell a t => do loadVar t (← asAddr (tmps.getD a undef)) : ResultVar → Sem Value) := by funext x; cases x <;> rfl
  show _ = (do let vs ← fn.results.mapM (fun r => resOne tmps r); pure (if h : vs.size = 1 then vs[0] else .tuple vs))
  rw [this]
  rfl
theorem DenT.length {ρ : Rho} : ∀ {l : List SV} {cs : List Value}, DenT ρ l cs → cs.length = l.length
  | [], cs, h => by cases h with | nil h => subst h; rfl
  | x :: r, cs, h => by cases h with | cons c c2 hc h1 h2 => subst hc; simp [h2.length]

theorem resS_sound {P : Program} {T : Tree} (hT : TOk P T) {ρ : Rho} {nt : Nat × Option Nat} {fr : Fr} {a : Act} {hp : List Blk} {w : World} (h : HSat ρ hp w) (hf : FSat ρ nt fr a) : ∀ (rs : List ResultVar) (K : List SV → Prop), resS T rs fr hp K →
    ∃ l cs, (rs.mapM (resOne a.tmps) : Sem (List Value)).run P w = .ok cs w ∧ DenT ρ l cs ∧ K l
  | [], K, hK => ⟨[], [], by simp, .nil rfl, hK⟩
  | .tmp t :: r, K, hK => by
    unfold resS at hK
    split at hK
    · rename_i v hv
      obtain ⟨l, cs, g1, g2, g3⟩ := resS_sound hT h hf r _ hK
      exact ⟨v :: l, a.tmps.getD t undef :: cs, by simp only [List.mapM_cons, resOne, Sem.run_bind, Sem.run_pure, Result.andThen_ok, g1], .cons _ _ rfl (ev_sound h hf hv) g2, g3⟩
    · exact hK.elim
  | .cell t ty :: r, K, hK => by
    unfold resS at hK
    split at hK
    · rename_i y o hv
      have hd := ev_sound h hf hv
      change Den ρ _ (a.tmps.getD t undef) at hd
      obtain ⟨v, u, e1, e2, e3⟩ := loadS_sound hT h hd hK
      obtain ⟨l, cs, g1, g2, g3⟩ := resS_sound hT h hf r _ e3
      refine ⟨v :: l, u :: cs, ?_, .cons _ _ rfl e2 g2, g3⟩
      have hl : (do loadVar ty (← asAddr (a.tmps.getD t undef)) : Sem Value).run P w = .ok u w := by
        cases hd with
        | p b o0 hx hc =>
          rw [hc] at e1 ⊢
          exact e1
      simp only [List.mapM_cons, resOne, Sem.run_bind] at hl ⊢
      rw [hl]
      simp only [Result.andThen_ok, g1, Sem.run_pure]
    · exact hK.elim

theorem run_results {P : Program} {fn : Func} {a : Act} {w : World} {ρ : Rho} {l : List SV} {cs : List Value}
    (h : (fn.results.toList.mapM (resOne a.tmps) : Sem (List Value)).run P w = .ok cs w) (hd : DenT ρ l cs) :
    ∃ c, (results fn a.tmps).run P w = .ok c w ∧ Den ρ (tupS l) c := by
  rw [results_eq, Sem.run_bind, Array.mapM_eq_mapM_toList]
  simp only [Sem.run_map]
  rw [h]
  simp only [Result.andThen_ok, Sem.run_pure]
  cases hd with
  | nil hc => subst hc; exact ⟨_, rfl, .tup [] rfl (.nil rfl)⟩
  | cons c c2 hc h1 h2 =>
    cases h2 with
    | nil hc2 => subst hc2; subst hc; exact ⟨_, rfl, h1⟩
    | cons c' c3 hc3 h3 h4 =>
      subst hc3; subst hc
      exact ⟨.tuple (c :: c' :: c3).toArray, by simp, .tup _ rfl (.cons _ _ rfl h1 (.cons _ _ rfl h3 h4))⟩

/-- The blocks of ranges over functions are shut. -/
def closeS (ms : List SV) (hp : List Blk) (K : List Blk → Prop) : Prop :=
  match ms with
  | [] => K hp
  | v :: r => match v with
    | .p x o => match o with
      | .at n => match n with
        | 0 => match hp[x]? with
          | some (.obj (.deferred (some []))) => closeS r (hp.set x (.obj (.deferred none))) K
          | _ => False
        | _ => False
      | _ => False
    | _ => False
theorem HSat.shut {ρ : Rho} {hp : List Blk} {w : World} {x b : Nat} (h : HSat ρ hp w) (hx : ρ[x]? = some (some (b, 0))) (hk : hp[x]? = some (.obj (.deferred (some [])))) :
    w.heap[b]? = some (.deferred (some [])) ∧ HSat ρ (hp.set x (.obj (.deferred none))) (w.putObj b (.deferred none)) := by
  obtain ⟨ω, h⟩ := h
  have hlt : x < hp.length := (List.getElem?_eq_some_iff.1 hk).1
  have hw : ω[x]? = some (ω[x]'(by rw [h.lenω, ← h.lenh]; exact hlt)) := by simp
  generalize ω[x]'(by rw [h.lenω, ← h.lenh]; exact hlt) = ox at hw
  obtain ⟨b', e1, e2, e3, e4⟩ := h.sat x _ ox _ hx hw hk
  cases e1
  have hbl : b < w.heap.size := (Array.getElem?_eq_some_iff.1 e3).1
  refine ⟨e3, ω, ?_⟩
  have hput : (w.putObj b (.deferred none)).heap[b]? = some (.deferred none) := by simp [World.putObj, hbl]
  refine h.turn hx hw ⟨b, rfl, e2, hput, rfl⟩ (by simp [World.putObj]) fun c _ hc => ?_
  rw [e2] at hc
  simp only [List.mem_singleton] at hc
  simp [World.putObj, Array.getElem?_setIfInBounds_ne (Ne.symm hc)]
theorem leaves_marks {P : Program} {fn : Func} {tmps : Array Value} {R : Ending → World → Prop} {ρ : Rho} {w0 : World} {K : List Blk → Prop}
    (fin : ∀ hp' w', HSat ρ hp' w' → Kept w0 w' → K hp' → ∃ v, (results fn tmps).run P w' = .ok v w' ∧ R (.returned v) w') : ∀ (ms : List SV) (bs : List Nat) (hp : List Blk) (w : World),
    DenT ρ ms (bs.map fun b => .pointer (some ⟨b, 0, none⟩)) → HSat ρ hp w → Kept w0 w → closeS ms hp K →
    LeavesInM (FR none) 0 P fn tmps R (bs.map fun b => { target := .collected b, args := #[] }) .returning w
  | [], bs, hp, w, hd, hs, hk, hc => by
    cases hd with
    | nil h =>
      have : bs = [] := by simpa using h
      subst this
      exact fin hp w hs hk hc
  | m :: ms, bs, hp, w, hd, hs, hk, hc => by
    cases hd with
    | cons c c2 h h1 h2 =>
      cases bs with
      | nil => simp at h
      | cons b bs =>
        simp only [List.map_cons, List.cons.injEq] at h
        obtain ⟨rfl, rfl⟩ := h
        unfold closeS at hc
        split at hc
        · split at hc
          · split at hc
            · split at hc
              · rename_i x _ _ hx
                cases h1 with
                | p b' o0 hr he =>
                  cases he
                  simp only [Off.val, Nat.add_zero] at *
                  obtain ⟨g1, g2⟩ := hs.shut hr hx
                  exact ⟨by simp, .inl ⟨b, _, rfl, run_takeDeferred g1, leaves_marks fin ms bs _ _ h2 g2 (hk.trans ⟨rfl, rfl, rfl, by simp [World.putObj]⟩) hc⟩⟩
              · exact hc.elim
            · exact hc.elim
          · exact hc.elim
        · exact hc.elim
/-- What is handed back. -/
def endS (T : Tree) (rs : List ResultVar) (K : Bool → SV → List Blk → Prop) (q : Bool) (e : Ex) (st : St) : Prop :=
  match e with
  | .exit _ => False
  | _ => match look st.fr 1000003 with
    | none => resS T rs st.fr st.hp fun l => K q (tupS l) st.hp
    | some v => match v with
      | .tup ms => closeS ms st.hp fun hp => resS T rs st.fr hp fun l => K false (tupS l) hp
      | _ => False
theorem argFr_lt : ∀ {l : List SV} {k t : Nat} {v : SV}, look (argFr l k) t = some v → t < k + l.length
  | [], k, t, v, h => by simp [argFr, look] at h
  | x :: r, k, t, v, h => by
    unfold argFr look at h
    split at h
    · rename_i e; subst e; simp
    · have := argFr_lt h; simp; omega

/-- A function's contract, from its body. -/
theorem OkCall.of_code {C : Kit} {f : Nat} {fn : Func} {c : Code} {args : List SV} {hp : List Blk} {post : Bool → SV → List Blk → Prop}
    (hf : C.P.funcs[f]? = some fn) (hb : fn.body = some c) (hn : (fn.name == "runtime.NumGoroutine") = false) (hlen : (Nat.ble args.length fn.ntmps && Nat.ble fn.ntmps 1000003) = true)
    (h : Ok C fn.ntmps hp.length c true ⟨argFr args 0, hp⟩ (endS C.T fn.results.toList post)) : OkCall C f args hp post := by
  refine ⟨⟨fn, hf, hn, by rw [hb]; rfl⟩, fun ρ w vals hd hs => ?_⟩
  have hvl : vals.length = args.length := hd.length
  simp only [Bool.and_eq_true] at hlen
  have hmk := Nat.le_of_ble_eq_true hlen.2
  have hlen := Nat.le_of_ble_eq_true hlen.1
  let E : Env := ⟨ρ, w, fn.ntmps, none⟩
  have hmn : look (argFr args 0) 1000003 = none := by
    cases hh : look (argFr args 0) 1000003 with
    | none => rfl
    | some v => have := argFr_lt hh; omega
  refine FR_calls.1 (callsIn_of_wp_marks (F := FR none) (n := 0) hf hb trivial (wpIn_mono (h.out E _ w rfl hs.len.symm ⟨ρ, Ext.refl _, ⟨by show _ = fn.ntmps; simp; omega, hmk, by rw [hmn]; rfl, by rw [hmn]; exact rfl, ?_⟩, hs, Kept.refl _, fun _ => ⟨0, rfl⟩⟩) ?_))
  · intro t v _ hv
    obtain ⟨c, _, e2, e3⟩ := argFr_sound hd hv
    have hlt : t < vals.length := by
      have := (List.getElem?_eq_some_iff.1 e2).1; simpa using this
    have : (vals.toArray ++ Array.replicate (fn.ntmps - vals.toArray.size) undef).getD t undef = c := by
      rw [Array.getD_eq_getD_getElem?, Array.getElem?_append_left (by simpa using hlt)]
      simp at e2 ⊢
      simp [e2]
    rw [this]; exact e3
  · have fin : ∀ (q : Bool) (st : St) (a : Act) (w' : World), SSat E q st a w' → (match look st.fr 1000003 with
          | none => resS C.T fn.results.toList st.fr st.hp fun l => post q (tupS l) st.hp
          | some v => match v with
            | .tup ms => closeS ms st.hp fun hp => resS C.T fn.results.toList st.fr hp fun l => post false (tupS l) hp
            | _ => False) → LeavesInM (FR none) 0 C.P fn a.tmps (Ends ρ w post) a.defers .returning w' := by
      intro q st a w' ⟨ρ', h1, h2, h3, h4, h5⟩ hr
      have hm := h2.marks
      split at hr
      · rename_i hl
        rw [hl] at hm
        have hm : a.defers = [] := hm
        rw [hm]
        obtain ⟨l, cs, g1, g2, g3⟩ := resS_sound C.hT h3 h2 _ _ hr
        obtain ⟨c, k1, k2⟩ := run_results g1 g2
        exact ⟨c, k1, q, ρ', tupS l, c, st.hp, rfl, h1, k2, h3, h4, h5, g3⟩
      · rename_i v hl
        split at hr
        · rename_i ms
          rw [hl] at hm
          obtain ⟨bs, hd, hds⟩ := hm (by rw [← hl, ← h2.rdk])
          rw [hds]
          refine leaves_marks (fun hp' w2 g1 g2 g3 => ?_) ms bs st.hp w' hd h3 h4 hr
          obtain ⟨l, cs, g4, g5, g6⟩ := resS_sound C.hT g1 h2 _ _ g3
          obtain ⟨c, k1, k2⟩ := run_results g4 g5
          exact ⟨c, k1, false, ρ', tupS l, c, hp', rfl, h1, k2, g1, g2, fun e => (by cases e), g6⟩
        · exact hr.elim
    intro e a w' he
    cases e with
    | normal => obtain ⟨q, st, h1, h2⟩ := he; exact fin q st a w' h1 h2
    | ret => obtain ⟨q, st, h1, h2⟩ := he; exact fin q st a w' h1 h2
    | exit id => obtain ⟨q, st, h1, h2⟩ := he; exact h2.elim
    | goto l => exact he.elim
    | panic ch => exact he.elim
    | outgrown => exact he.elim

/-! ### Calls gone into -/
structure FnI where
  nt : Nat
  res : List ResultVar
  body : Code
  opt : Opt
abbrev FnT := List (Nat × FnI)
def findI : FnT → Nat → Option FnI
  | [], _ => none
  | (f, x) :: r, g => if f = g then some x else findI r g
structure FnOk (C : Kit) (f : Nat) (x : FnI) : Prop where
  out : ∃ fn, C.P.funcs[f]? = some fn ∧ fn.body = some x.body ∧ (fn.name == "runtime.NumGoroutine") = false ∧ fn.ntmps = x.nt ∧ fn.results.toList = x.res ∧ drawsChkO x.opt.ob x.body = true
def FnsOk (C : Kit) : FnT → Prop
  | [] => True
  | (f, x) :: r => FnOk C f x ∧ FnsOk C r
theorem findI_ok {C : Kit} : ∀ {I : FnT} {f : Nat} {x : FnI}, FnsOk C I → findI I f = some x → FnOk C f x
  | [], f, x, _, h => by simp [findI] at h
  | (g, y) :: r, f, x, hI, h => by
    unfold findI at h
    split at h
    · rename_i e; subst e; cases h; exact hI.1
    · exact findI_ok hI.2 h

/-- Calls: those in the table are gone into (so deep), the others asked for. -/
def callH (C : Kit) (T : Tree) (M : MT) (I : FnT) : Nat → Handler
  | 0 => OkCall C
  | n + 1 => fun f args hp K => match findI I f with
    | none => OkCall C f args hp K
    | some x => if (Nat.ble args.length x.nt && Nat.ble x.nt 1000003) = true then codeS C (callH C T M I n) x.opt T M x.nt hp.length x.body true ⟨argFr args 0, hp⟩ (endS T x.res K) else False
theorem callH_ok {C : Kit} {I : FnT} (hI : FnsOk C I) : ∀ n, HOk C (callH C C.T C.M I n)
  | 0 => fun f args hp K h => h
  | n + 1 => by
    intro f args hp K h
    unfold callH at h
    split at h
    · exact h
    · rename_i x hx
      obtain ⟨fn, h1, h2, h3, h4, h5, h6⟩ := (findI_ok hI hx).out
      split at h
      · rename_i hlen
        refine OkCall.of_code h1 h2 h3 (by rw [h4]; exact hlen) ?_
        rw [h4, h5]
        exact Ok.of_codeS (callH_ok hI n) x.opt h6 h
      · exact h.elim

/-- A call that is gone into. -/
theorem OkCall.into {C : Kit} {I : FnT} (hI : FnsOk C I) (n : Nat) {f : Nat} {args : List SV} {hp : List Blk} {K : Bool → SV → List Blk → Prop} (h : callH C C.T C.M I n f args hp K) : OkCall C f args hp K := callH_ok hI n f args hp K h
end
end Go.Vex
namespace Go.Vex
noncomputable section
def fi (fn : Func) (O : Opt) : FnI := ⟨fn.ntmps, fn.results.toList, fn.body.getD .skip, O⟩
theorem fi_okO {C : Kit} {f : Nat} {fn : Func} (O : Opt) (h : C.P.funcs[f]? = some fn) (hb : fn.body.isSome = true) (hn : (fn.name == "runtime.NumGoroutine") = false)
    (hch : drawsChkO O.ob (fn.body.getD .skip) = true) : FnOk C f (fi fn O) := by
  obtain ⟨b, hb'⟩ := Option.isSome_iff_exists.1 hb
  exact ⟨fn, h, by show fn.body = some (fn.body.getD .skip); rw [hb']; rfl, hn, rfl, rfl, hch⟩
theorem fi_ok {C : Kit} {f : Nat} {fn : Func} (O : Opt) (hO : plainOb O.ob = true) (h : C.P.funcs[f]? = some fn) (hb : fn.body.isSome = true) (hn : (fn.name == "runtime.NumGoroutine") = false)
    (hch : drawsChk (fn.body.getD .skip) = true) : FnOk C f (fi fn O) := fi_okO O h hb hn (by rw [drawsChk_plain hO]; exact hch)
end
end Go.Vex
end

/-
  VEX, part 14: calls by contract: the callee's resources, renamed; all else is a frame.
-/
section
namespace Go.Vex
noncomputable section

mutual
def ren (τ : Nat → Nat) : SV → SV
  | .p x o => .p (τ x) o
  | .slc x l w o len cap => .slc (τ x) l w o len cap
  | .agg l => .agg (renL τ l)
  | .tup l => .tup (renL τ l)
  | .fn f a b => .fn f (renL τ a) (renL τ b)
  | .ifc t v => .ifc t (ren τ v)
  | .map x => .map (τ x)
  | .rows w m f => .rows w m (fun j => renL τ (f j))
  | .i k n => .i k n
  | .b x => .b x
  | .str s => .str s
  | .nilp => .nilp
  | .nilslc => .nilslc
  | .nilfn => .nilfn
  | .nilifc => .nilifc
  | .nilmap => .nilmap
  | .raw v => .raw v
  | .ints k m zs => .ints k m zs
  | .junk w m => .junk w m
  | .slr x b w len cap => .slr (τ x) b w len cap
def renL (τ : Nat → Nat) : List SV → List SV
  | [] => []
  | v :: r => ren τ v :: renL τ r
end
def renB (τ : Nat → Nat) : Blk → Blk
  | .cells T l => .cells T (renL τ l)
  | .ro l => .ro (renL τ l)
  | .glob g l => .glob g (renL τ l)
  | .gone => .gone
  | .obj o => .obj o
  | .abs A => .abs A
  | .av l A => .av (renL τ l) A

/-- ρ', read by τ, is ρ. -/
def Via (τ : Nat → Nat) (ρ ρ' : Rho) : Prop := ∀ (x : Nat) (r : Option (Nat × Nat)), ρ[x]? = some r → ρ'[τ x]? = some r

mutual
theorem Den.ren {τ : Nat → Nat} {ρ ρ' : Rho} (e : Via τ ρ ρ') {x : SV} {v : Value} (h : Den ρ x v) : Den ρ' (Vex.ren τ x) v :=
  match h with
  | .i h => by rw [Vex.ren]; exact .i h
  | .b h => by rw [Vex.ren]; exact .b h
  | .str h => by rw [Vex.ren]; exact .str h
  | .p b o0 hx h => by rw [Vex.ren]; exact .p b o0 (e _ _ hx) h
  | .nilp h => by rw [Vex.ren]; exact .nilp h
  | .slc r hx hn h => by rw [Vex.ren]; exact .slc r (e _ _ hx) hn h
  | .nilslc h => by rw [Vex.ren]; exact .nilslc h
  | .agg vs h hl => by rw [Vex.ren]; exact .agg vs h (DenL.ren e hl)
  | .tup vs h hl => by rw [Vex.ren]; exact .tup vs h (DenT.ren e hl)
  | .fn vs us h h1 h2 => by rw [Vex.ren]; exact .fn vs us h (DenT.ren e h1) (DenT.ren e h2)
  | .nilfn h => by rw [Vex.ren]; exact .nilfn h
  | .ifc u h hx => by rw [Vex.ren]; exact .ifc u h (Den.ren e hx)
  | .nilifc h => by rw [Vex.ren]; exact .nilifc h
  | .map b hx h => by rw [Vex.ren]; exact .map b (e _ _ hx) h
  | .nilmap h => by rw [Vex.ren]; exact .nilmap h
  | .raw h => by rw [Vex.ren]; exact .raw h
  | .slr b o0 hx h => by rw [Vex.ren]; exact .slr b o0 (e _ _ hx) h
theorem DenC.ren {τ : Nat → Nat} {ρ ρ' : Rho} (e : Via τ ρ ρ') {x : SV} {cs : List Value} (h : DenC ρ x cs) : DenC ρ' (Vex.ren τ x) cs :=
  match h with
  | .one c h h1 hx => .one c h h1 (Den.ren e hx)
  | .ints hm h => by rw [Vex.ren]; exact .ints hm h
  | .rows hm h => by rw [Vex.ren]; exact .rows hm fun j hj => DenL.ren e (h j hj)
  | .junk hm h => by rw [Vex.ren]; exact .junk hm h
theorem DenL.ren {τ : Nat → Nat} {ρ ρ' : Rho} (e : Via τ ρ ρ') {x : List SV} {cs : List Value} (h : DenL ρ x cs) : DenL ρ' (Vex.renL τ x) cs :=
  match h with
  | .nil h => by rw [Vex.renL]; exact .nil h
  | .cons c1 c2 h h1 h2 => by rw [Vex.renL]; exact .cons c1 c2 h (DenC.ren e h1) (DenL.ren e h2)
theorem DenT.ren {τ : Nat → Nat} {ρ ρ' : Rho} (e : Via τ ρ ρ') {x : List SV} {cs : List Value} (h : DenT ρ x cs) : DenT ρ' (Vex.renL τ x) cs :=
  match h with
  | .nil h => by rw [Vex.renL]; exact .nil h
  | .cons c c2 h h1 h2 => by rw [Vex.renL]; exact .cons c c2 h (Den.ren e h1) (DenT.ren e h2)
end
theorem BSat.ren {τ : Nat → Nat} {ρ ρ' : Rho} (e : Via τ ρ ρ') {addr : Option (Nat × Nat)} {o : Own} {w : World} {k : Blk} (h : BSat ρ addr o w k) : BSat ρ' addr o w (renB τ k) := by
  cases k with
  | gone => exact h
  | cells T l => obtain ⟨cs, h1, h2⟩ := h; exact ⟨cs, h1.ren e, h2⟩
  | ro l => obtain ⟨cs, h1, h2⟩ := h; exact ⟨cs, h1.ren e, h2⟩
  | glob g l => obtain ⟨cs, arr, T, fz, h1, h2⟩ := h; exact ⟨cs, arr, T, fz, h1.ren e, h2⟩
  | obj x => exact h
  | abs A => exact h
  | av l A => obtain ⟨vs, h1, h2⟩ := h; exact ⟨vs, h1.ren e, h2⟩

/-! ### What may be said of what -/
mutual
/-- What the first says of a value, the second one says too. -/
def leV : SV → SV → Prop
  | .i k n, v => match v with
    | .i k' m => k = k' ∧ m.val = n.val
    | _ => False
  | .b x, v => match v with
    | .b y => y.val = x.val
    | _ => False
  | .p x o, v => match v with
    | .p y o' => x = y ∧ o'.val = o.val
    | _ => False
  | .slc x l w o len cap, v => match v with
    | .slc x' l' w' o' len' cap' => x = x' ∧ l = l' ∧ w = w' ∧ o'.val = o.val ∧ len'.val = len.val ∧ cap'.val = cap.val
    | _ => False
  | .slr x b w len cap, v => match v with
    | .slr x' b' w' len' cap' => x = x' ∧ w = w' ∧ b'.val = b.val ∧ len'.val = len.val ∧ cap'.val = cap.val
    | _ => False
  | .agg l, v => match v with
    | .agg l' => leL l l'
    | _ => False
  | .tup l, v => match v with
    | .tup l' => leL l l'
    | _ => False
  | .ifc t x, v => match v with
    | .ifc t' y => t = t' ∧ leV x y
    | _ => False
  | .ints k m zs, v => match v with
    | .ints k' m' zs' => k = k' ∧ m'.val = m.val ∧ zs' = zs
    | _ => False
  | .rows w m f, v => match v with
    | .rows w' m' f' => w = w' ∧ m'.val = m.val ∧ ∀ j, j < m.val → leL (f j) (f' j)
    | _ => False
  | .junk w m, v => match v with
    | .junk w' m' => w = w' ∧ m'.val = m.val
    | _ => False
  | .fn f a b, v => match v with
    | .fn f' a' b' => f = f' ∧ leL a a' ∧ leL b b'
    | _ => False
  | u, v => u = v
def leL : List SV → List SV → Prop
  | [], l => match l with
    | [] => True
    | _ :: _ => False
  | u :: r, l => match l with
    | [] => False
    | v :: s => leV u v ∧ leL r s
end

mutual
theorem leV.den' {ρ : Rho} {u : SV} {c : Value} (h : Den ρ u c) : ∀ v : SV, leV u v → Den ρ v c :=
  match h with
  | .i h => fun v hl => by cases v <;> simp only [leV] at hl; obtain ⟨rfl, e⟩ := hl; exact .i (by rw [h, e])
  | .b h => fun v hl => by cases v <;> simp only [leV] at hl; exact .b (by rw [h, hl])
  | .p b o0 hx h => fun v hl => by cases v <;> simp only [leV] at hl; obtain ⟨rfl, e⟩ := hl; exact .p b o0 hx (by rw [h, e])
  | .slc r hx hn h => fun v hl => by cases v <;> simp only [leV] at hl; obtain ⟨rfl, rfl, rfl, e1, e2, e3⟩ := hl; exact .slc r hx (by rw [e2, e3]; exact hn) (by rw [e1, e2, e3]; exact h)
  | .agg vs h h1 => have ih := leL.den' h1; fun v hl => by cases v <;> simp only [leV] at hl; exact .agg vs h (ih _ hl)
  | .tup vs h h1 => have ih := leL.denT' h1; fun v hl => by cases v <;> simp only [leV] at hl; exact .tup vs h (ih _ hl)
  | .ifc u h h1 => have ih := leV.den' h1; fun v hl => by cases v <;> simp only [leV] at hl; obtain ⟨rfl, hl⟩ := hl; exact .ifc u h (ih _ hl)
  | .str h => fun v hl => by simp only [leV] at hl; subst hl; exact .str h
  | .nilp h => fun v hl => by simp only [leV] at hl; subst hl; exact .nilp h
  | .nilslc h => fun v hl => by simp only [leV] at hl; subst hl; exact .nilslc h
  | .fn vs us h h1 h2 => have ih1 := leL.denT' h1; have ih2 := leL.denT' h2; fun v hl => by cases v <;> simp only [leV] at hl; obtain ⟨rfl, ha, hb⟩ := hl; exact .fn vs us h (ih1 _ ha) (ih2 _ hb)
  | .nilfn h => fun v hl => by simp only [leV] at hl; subst hl; exact .nilfn h
  | .nilifc h => fun v hl => by simp only [leV] at hl; subst hl; exact .nilifc h
  | .map b hx h => fun v hl => by simp only [leV] at hl; subst hl; exact .map b hx h
  | .nilmap h => fun v hl => by simp only [leV] at hl; subst hl; exact .nilmap h
  | .raw h => fun v hl => by simp only [leV] at hl; subst hl; exact .raw h
  | .slr b o0 hx h => fun v hl => by cases v <;> simp only [leV] at hl; obtain ⟨rfl, rfl, e1, e2, e3⟩ := hl; exact .slr b o0 hx (by rw [e1, e2, e3]; exact h)
theorem leV.denC' {ρ : Rho} {u : SV} {cs : List Value} (h : DenC ρ u cs) : ∀ v : SV, leV u v → DenC ρ v cs :=
  match h with
  | .one c h h1 hx => have ih := leV.den' hx; fun v hl => .one c h h1 (ih v hl)
  | .ints hm h => fun v hl => by cases v <;> simp only [leV] at hl; obtain ⟨rfl, e, rfl⟩ := hl; exact .ints (by rw [e]; exact hm) h
  | .rows hm h => have ih := fun j hj => leL.den' (h j hj); fun v hl => by cases v <;> simp only [leV] at hl; obtain ⟨rfl, e, hf⟩ := hl; exact .rows (by rw [e]; exact hm) (fun j hj => ih j (by rw [← e]; exact hj) _ (hf j (by rw [← e]; exact hj)))
  | .junk hm h => fun v hl => by cases v <;> simp only [leV] at hl; obtain ⟨rfl, e⟩ := hl; exact .junk (by rw [e]; exact hm) h
theorem leL.den' {ρ : Rho} {l : List SV} {cs : List Value} (h : DenL ρ l cs) : ∀ m : List SV, leL l m → DenL ρ m cs :=
  match h with
  | .nil h => fun m hl => by cases m <;> simp only [leL] at hl; exact .nil h
  | .cons c1 c2 h h1 h2 => have ih1 := leV.denC' h1; have ih2 := leL.den' h2; fun m hl => by cases m <;> simp only [leL] at hl; exact .cons c1 c2 h (ih1 _ hl.1) (ih2 _ hl.2)
theorem leL.denT' {ρ : Rho} {l : List SV} {cs : List Value} (h : DenT ρ l cs) : ∀ m : List SV, leL l m → DenT ρ m cs :=
  match h with
  | .nil h => fun m hl => by cases m <;> simp only [leL] at hl; exact .nil h
  | .cons c c2 h h1 h2 => have ih1 := leV.den' h1; have ih2 := leL.denT' h2; fun m hl => by cases m <;> simp only [leL] at hl; exact .cons c c2 h (ih1 _ hl.1) (ih2 _ hl.2)
end
theorem leV.den {ρ : Rho} {u v : SV} {c : Value} (h : Den ρ u c) (hl : leV u v) : Den ρ v c := leV.den' h v hl
theorem leV.denC {ρ : Rho} {u v : SV} {cs : List Value} (h : DenC ρ u cs) (hl : leV u v) : DenC ρ v cs := leV.denC' h v hl
theorem leL.den {ρ : Rho} {l m : List SV} {cs : List Value} (h : DenL ρ l cs) (hl : leL l m) : DenL ρ m cs := leL.den' h m hl
theorem leL.denT {ρ : Rho} {l m : List SV} {cs : List Value} (h : DenT ρ l cs) (hl : leL l m) : DenT ρ m cs := leL.denT' h m hl

def leB : Blk → Blk → Prop
  | .cells T l, k => match k with
    | .cells T' l' => T = T' ∧ leL l l'
    | _ => False
  | .ro l, k => match k with
    | .ro l' => leL l l'
    | _ => False
  | .glob g l, k => match k with
    | .glob g' l' => g = g' ∧ leL l l'
    | _ => False
  | .av l A, k => match k with
    | .av l' A' => A = A' ∧ leL l l'
    | _ => False
  | a, k => a = k
theorem leB.sat {ρ : Rho} {addr : Option (Nat × Nat)} {o : Own} {w : World} {k k' : Blk} (h : BSat ρ addr o w k) (hl : leB k k') : BSat ρ addr o w k' := by
  cases k with
  | cells T l => cases k' <;> simp only [leB] at hl; obtain ⟨rfl, hl⟩ := hl; obtain ⟨cs, h1, h2⟩ := h; exact ⟨cs, leL.den h1 hl, h2⟩
  | ro l => cases k' <;> simp only [leB] at hl; obtain ⟨cs, h1, h2⟩ := h; exact ⟨cs, leL.den h1 hl, h2⟩
  | glob g l => cases k' <;> simp only [leB] at hl; obtain ⟨rfl, hl⟩ := hl; obtain ⟨cs, arr, T, fz, h1, h2⟩ := h; exact ⟨cs, arr, T, fz, leL.den h1 hl, h2⟩
  | gone => simp only [leB] at hl; subst hl; exact h
  | obj x => simp only [leB] at hl; subst hl; exact h
  | abs A => simp only [leB] at hl; subst hl; exact h
  | av l A => cases k' <;> simp only [leB] at hl; obtain ⟨rfl, hl⟩ := hl; obtain ⟨vs, h1, h2⟩ := h; exact ⟨vs, leL.denT h1 hl, h2⟩

/-- What is said by new names holds by the old ones. -/
def Back (τ : Nat → Nat) (ρ ρ' : Rho) : Prop := ∀ (x : Nat) (r : Option (Nat × Nat)), ρ[τ x]? = some r → ρ'[x]? = some r
mutual
theorem Den.back' {τ : Nat → Nat} {ρ ρ' : Rho} (e : Back τ ρ ρ') {y : SV} {v : Value} (h : Den ρ y v) : ∀ x : SV, y = Vex.ren τ x → Den ρ' x v :=
  match h with
  | .i h => fun x hx => by cases x <;> simp only [Vex.ren, reduceCtorEq, SV.i.injEq] at hx; obtain ⟨rfl, rfl⟩ := hx; exact .i h
  | .b h => fun x hx => by cases x <;> simp only [Vex.ren, reduceCtorEq, SV.b.injEq] at hx; subst hx; exact .b h
  | .str h => fun x hx => by cases x <;> simp only [Vex.ren, reduceCtorEq, SV.str.injEq] at hx; subst hx; exact .str h
  | .p b o0 h1 h => fun x hx => by cases x <;> simp only [Vex.ren, reduceCtorEq, SV.p.injEq] at hx; obtain ⟨rfl, rfl⟩ := hx; exact .p b o0 (e _ _ h1) h
  | .nilp h => fun x hx => by cases x <;> simp only [Vex.ren, reduceCtorEq] at hx; exact .nilp h
  | .slc r h1 hn h => fun x hx => by cases x <;> simp only [Vex.ren, reduceCtorEq, SV.slc.injEq] at hx; obtain ⟨rfl, rfl, rfl, rfl, rfl, rfl⟩ := hx; exact .slc r (e _ _ h1) hn h
  | .nilslc h => fun x hx => by cases x <;> simp only [Vex.ren, reduceCtorEq] at hx; exact .nilslc h
  | .agg vs h h1 => have ih1 := DenL.back' e h1; fun x hx => by cases x <;> simp only [Vex.ren, reduceCtorEq, SV.agg.injEq] at hx; exact .agg vs h (ih1 _ hx)
  | .tup vs h h1 => have ih1 := DenT.back' e h1; fun x hx => by cases x <;> simp only [Vex.ren, reduceCtorEq, SV.tup.injEq] at hx; exact .tup vs h (ih1 _ hx)
  | .fn vs us h h1 h2 => have ih1 := DenT.back' e h1; have ih2 := DenT.back' e h2; fun x hx => by cases x <;> simp only [Vex.ren, reduceCtorEq, SV.fn.injEq] at hx; obtain ⟨rfl, hx, hy⟩ := hx; exact .fn vs us h (ih1 _ hx) (ih2 _ hy)
  | .nilfn h => fun x hx => by cases x <;> simp only [Vex.ren, reduceCtorEq] at hx; exact .nilfn h
  | .ifc u h h1 => have ih1 := Den.back' e h1; fun x hx => by cases x <;> simp only [Vex.ren, reduceCtorEq, SV.ifc.injEq] at hx; obtain ⟨rfl, hx⟩ := hx; exact .ifc u h (ih1 _ hx)
  | .nilifc h => fun x hx => by cases x <;> simp only [Vex.ren, reduceCtorEq] at hx; exact .nilifc h
  | .map b h1 h => fun x hx => by cases x <;> simp only [Vex.ren, reduceCtorEq, SV.map.injEq] at hx; subst hx; exact .map b (e _ _ h1) h
  | .nilmap h => fun x hx => by cases x <;> simp only [Vex.ren, reduceCtorEq] at hx; exact .nilmap h
  | .raw h => fun x hx => by cases x <;> simp only [Vex.ren, reduceCtorEq, SV.raw.injEq] at hx; subst hx; exact .raw h
  | .slr b o0 h1 h => fun x hx => by cases x <;> simp only [Vex.ren, reduceCtorEq, SV.slr.injEq] at hx; obtain ⟨rfl, rfl, rfl, rfl, rfl⟩ := hx; exact .slr b o0 (e _ _ h1) h
theorem DenC.back' {τ : Nat → Nat} {ρ ρ' : Rho} (e : Back τ ρ ρ') {y : SV} {cs : List Value} (h : DenC ρ y cs) : ∀ x : SV, y = Vex.ren τ x → DenC ρ' x cs :=
  match h with
  | .one c h h1 h2 => have ih1 := Den.back' e h2; fun x hx => by exact .one c h h1 (ih1 x hx)
  | .ints hm h => fun x hx => by cases x <;> simp only [Vex.ren, reduceCtorEq, SV.ints.injEq] at hx; obtain ⟨rfl, rfl, rfl⟩ := hx; exact .ints hm h
  | .rows hm h => have ih1 := fun j hj => DenL.back' e (h j hj); fun x hx => by cases x <;> simp only [Vex.ren, reduceCtorEq, SV.rows.injEq] at hx; obtain ⟨rfl, rfl, rfl⟩ := hx; exact .rows hm fun j hj => ih1 j hj _ rfl
  | .junk hm h => fun x hx => by cases x <;> simp only [Vex.ren, reduceCtorEq, SV.junk.injEq] at hx; obtain ⟨rfl, rfl⟩ := hx; exact .junk hm h
theorem DenL.back' {τ : Nat → Nat} {ρ ρ' : Rho} (e : Back τ ρ ρ') {y : List SV} {cs : List Value} (h : DenL ρ y cs) : ∀ x : List SV, y = Vex.renL τ x → DenL ρ' x cs :=
  match h with
  | .nil h => fun x hx => by cases x <;> simp only [Vex.renL, reduceCtorEq] at hx; exact .nil h
  | .cons c1 c2 h h1 h2 => have ih1 := DenC.back' e h1; have ih2 := DenL.back' e h2; fun x hx => by cases x <;> simp only [Vex.renL, reduceCtorEq, List.cons.injEq] at hx; exact .cons c1 c2 h (ih1 _ hx.1) (ih2 _ hx.2)
theorem DenT.back' {τ : Nat → Nat} {ρ ρ' : Rho} (e : Back τ ρ ρ') {y : List SV} {cs : List Value} (h : DenT ρ y cs) : ∀ x : List SV, y = Vex.renL τ x → DenT ρ' x cs :=
  match h with
  | .nil h => fun x hx => by cases x <;> simp only [Vex.renL, reduceCtorEq] at hx; exact .nil h
  | .cons c c2 h h1 h2 => have ih1 := Den.back' e h1; have ih2 := DenT.back' e h2; fun x hx => by cases x <;> simp only [Vex.renL, reduceCtorEq, List.cons.injEq] at hx; exact .cons c c2 h (ih1 _ hx.1) (ih2 _ hx.2)
end
theorem DenL.back {τ : Nat → Nat} {ρ ρ' : Rho} (e : Back τ ρ ρ') {x : List SV} {cs : List Value} (h : DenL ρ (Vex.renL τ x) cs) : DenL ρ' x cs := DenL.back' e h x rfl
theorem DenT.back {τ : Nat → Nat} {ρ ρ' : Rho} (e : Back τ ρ ρ') {x : List SV} {cs : List Value} (h : DenT ρ (Vex.renL τ x) cs) : DenT ρ' x cs := DenT.back' e h x rfl
theorem BSat.back {τ : Nat → Nat} {ρ ρ' : Rho} (e : Back τ ρ ρ') {addr : Option (Nat × Nat)} {o : Own} {w : World} {k : Blk} (h : BSat ρ addr o w (renB τ k)) : BSat ρ' addr o w k := by
  cases k with
  | gone => exact h
  | cells T l => obtain ⟨cs, h1, h2⟩ := h; exact ⟨cs, h1.back e, h2⟩
  | ro l => obtain ⟨cs, h1, h2⟩ := h; exact ⟨cs, h1.back e, h2⟩
  | glob g l => obtain ⟨cs, arr, T, fz, h1, h2⟩ := h; exact ⟨cs, arr, T, fz, h1.back e, h2⟩
  | obj x => exact h
  | abs A => exact h
  | av l A => obtain ⟨vs, h1, h2⟩ := h; exact ⟨vs, h1.back e, h2⟩
end
end Go.Vex
end
