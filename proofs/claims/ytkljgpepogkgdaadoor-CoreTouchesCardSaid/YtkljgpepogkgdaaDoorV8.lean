/-
  VEX, part 8: new slices; lengths; the evaluator of one operation, and that the model does as it says.
-/
import Derived.Test.YtkljgpepogkgdaaDoorV7
set_option linter.unusedSimpArgs false
namespace Go.Vex
set_option linter.unusedVariables false
noncomputable section

theorem range_mod {z : List Value} {m w : Nat} (hz : z.length = w) {j : Nat} (hj : j < m) :
    ((((Array.range (m * w)).map fun i => z.toArray[i % z.toArray.size]!).toList.drop (j * w)).take w) = z := by
  apply List.ext_getElem?
  intro i
  by_cases hi : i < w
  · rw [drop_take_get _ _ _ _ hi]
    have hlt : j * w + i < m * w := by
      have : (j + 1) * w ≤ m * w := Nat.mul_le_mul_right _ hj
      rw [Nat.add_mul] at this; omega
    simp only [Array.toList_map, List.getElem?_map, Array.toList_range, List.getElem?_range hlt, Option.map_some, List.size_toArray, hz]
    have : (j * w + i) % w = i := by rw [Nat.mul_comm, Nat.mul_add_mod]; exact Nat.mod_eq_of_lt hi
    rw [this]
    simp [hz, hi]
  · rw [List.getElem?_eq_none (by simp; omega), List.getElem?_eq_none (by omega)]

theorem zero_rows {ρ : Rho} {l : List SV} {z : List Value} {m : S Nat} {w : Nat} (hd : DenL ρ l z) (hz : z.length = w) :
    DenC ρ (.rows w m (fun _ => l)) ((Array.range (m.val * w)).map fun i => z.toArray[i % z.toArray.size]!).toList :=
  .rows (by simp) fun j hj => by rw [range_mod hz hj]; exact hd

def makeElems (te : TI) (cap : S Nat) : List SV :=
  match te.kind with
  | .int k => match te.zero with
    | [.i k' (.lit 0)] => if k' = k then (if te.size = 1 then [.ints k cap (zerosI cap.val)] else [.rows te.size cap fun _ => te.zero]) else [.rows te.size cap fun _ => te.zero]
    | _ => [.rows te.size cap fun _ => te.zero]
  | _ => [.rows te.size cap fun _ => te.zero]

theorem makeElems_sound {ρ : Rho} {te : TI} {z : List Value} (hd : DenL ρ te.zero z) (hz : z.length = te.size) (cap : S Nat) :
    DenL ρ (makeElems te cap) ((Array.range (cap.val * te.size)).map fun i => z.toArray[i % z.toArray.size]!).toList := by
  have base : DenL ρ [.rows te.size cap fun _ => te.zero] ((Array.range (cap.val * te.size)).map fun i => z.toArray[i % z.toArray.size]!).toList :=
    .cons _ [] (by simp) (zero_rows hd hz) (.nil rfl)
  unfold makeElems
  split
  · split
    · rename_i k' hz'
      split
      · split
        · rename_i e1 e2
          refine .cons _ [] (List.append_nil _).symm (.ints (by rw [zerosI_eq]; simp) ?_) (.nil rfl)
          rw [hz'] at hd
          obtain ⟨c1, c2, rfl, g1, g2⟩ := hd.of_cons
          obtain ⟨c, rfl, _, g3⟩ := g1.single rfl
          rw [g2.of_nil] at hz ⊢
          cases g3 with
          | i g3 =>
            subst g3
            rw [zerosI_eq]
            apply List.ext_getElem?
            intro i
            by_cases hi : i < cap.val
            · simp [e2, hi, e1, Nat.mod_one]
            · rw [List.getElem?_eq_none (by simp [e2]; omega), List.getElem?_eq_none (by simp; omega)]
        · exact base
      · exact base
    · exact base
  · exact base

theorem wrap_i64 {n : Int} (h0 : 0 ≤ n) (h1 : n ≤ 281474976710656) : IntKind.i64.wrap n = n := by
  unfold IntKind.wrap
  simp [IntKind.bits, IntKind.signed]
  omega

def nInt (n : S Int) : S Nat :=
  match n with
  | .lit n => .lit n.toNat
  | .ex n => .ex (toN n)
theorem nInt_val (n : S Int) : (nInt n).val = n.val.toNat := by unfold nInt; split <;> simp [toN_eq]

def makeSliceS (T : Tree) (t : Nat) (len cap : SV) (hp : List Blk) (K : SV → List Blk → Prop) : Prop :=
  match T.find t with
  | none => False
  | some ti => match ti.kind with
    | .slice e => match T.find e with
      | none => False
      | some te => match len with
        | .i _ l => match cap with
          | .i _ c => if 1 ≤ te.bytes then (if sizeL te.zero = some te.size then (mkOk l.val c.val te.bytes ∧
              K (.slc hp.length 0 te.size (.lit 0) (nInt l) (nInt c)) (hp ++ [.cells e (makeElems te (nInt c))])) else False) else False
          | _ => False
        | _ => False
    | _ => False

theorem Runs.newSlice {P : Program} {s : Sem Next} {ρ : Rho} {w : World} {K : SV → List Blk → Prop} {hp : List Blk} {l : List SV} {cs : List Value} {T : TypeId} {ws : Nat} {len cap : S Nat}
    (h : HSat ρ hp w) (hd : DenL ρ l cs) (hr : ∀ x, s.run P x = .ok (.value (.slice (some ⟨x.heap.size, 0, none⟩) len.val cap.val)) (x.alloc (.cells cs.toArray T)))
    (hK : K (.slc hp.length 0 ws (.lit 0) len cap) (hp ++ [.cells T l])) : Runs P s ρ w false .new K :=
  Runs.det (fun x _ => .inl (hr x)) (newB_inv w.heap.size (.cells cs.toArray T) (fun n => .slice (some ⟨n, 0, none⟩) len.val cap.val)) (Nat.le_refl _) ⟨.cells cs.toArray T, fun n => .slice (some ⟨n, 0, none⟩) len.val cap.val, rfl⟩ (Ext.push _ _)
    (.slc (some (w.heap.size, 0)) (by rw [h.len]; simp) (by simp) (by simp)) (h.newCells T hd) (Kept.alloc _ _) (by simp) hK

theorem makeSliceS_sound {P : Program} {T : Tree} (hT : TOk P T) {t : Nat} {ρ : Rho} {hp : List Blk} {w : World} (h : HSat ρ hp w) {len cap : SV} {u v : Value} {K : SV → List Blk → Prop}
    (hl : Den ρ len u) (hc : Den ρ cap v) (hK : makeSliceS T t len cap hp K) : Runs P (valS (Instr.makeSlice t u v)) ρ w false .new K := by
  unfold makeSliceS at hK
  split at hK
  · exact hK.elim
  · rename_i ti hti
    obtain ⟨d, h1, h2⟩ := (hT t ti hti).under
    split at hK
    · rename_i e hk
      rw [hk] at h2
      simp only [kindOk] at h2
      subst h2
      split at hK
      · exact hK.elim
      · rename_i te hte
        obtain ⟨z, hz, hzd⟩ := (hT e te hte).zeroV
        obtain ⟨i, hi1, hi2, hi3⟩ := (hT e te hte).info
        split at hK
        · rename_i k l
          split at hK
          · rename_i k' c
            split at hK
            · rename_i hby
              split at hK
              · rename_i hsz
                obtain ⟨hok, hK⟩ := hK
                rw [mkOk_eq] at hok
                obtain ⟨g1, g2, g3⟩ := hok
                have gc : c.val ≤ 281474976710656 := by
                  have : (1 : Int) * c.val ≤ te.bytes * c.val := Int.mul_le_mul_of_nonneg_right (by omega) (by omega)
                  omega
                have hlen := sizeL_len (hzd.weak (ρ := ρ)) hsz
                cases hl with
                | i hl => cases hc with
                  | i hc =>
                    subst hl; subst hc
                    refine Runs.newSlice h (makeElems_sound hzd.weak hlen (nInt c)) (fun x => run_valS ?_) hK
                    unfold Instr.makeSlice
                    simp only [Sem.run_bind, h1 x, Result.andThen_ok, asInt, asIntOf, Sem.run_pure, run_typeInfo' hi1, wrap_i64 (show 0 ≤ c.val by omega) gc, wrap_i64 g1 (show l.val ≤ 281474976710656 by omega), hi3]
                    have c1 : (decide (c.val < 0) || decide ((te.bytes : Int) * c.val > 2 ^ 48)) = false := by simp; omega
                    simp only [c1, Bool.false_or]
                    rw [if_neg (by simp; omega)]
                    simp only [Sem.run_bind, run_askRoom, Result.andThen_ok, (hT e te hte).size x, nInt_val]
                    split
                    · rename_i hn
                      simp only [Sem.run_pure, Result.andThen_ok, newRow, Sem.run_bind, run_newObj, World.alloc_eq]
                      have e0 : ∀ f : Nat → Value, ((Array.range (c.val.toNat * te.size)).map f) = #[] := by intro f; rw [hn]; apply Array.ext'; simp
                      simp only [e0]
                    · simp only [Sem.run_bind, hz x, Sem.run_pure, Result.andThen_ok, newRow, run_newObj, World.alloc_eq]
              · exact hK.elim
            · exact hK.elim
          · exact hK.elim
        · exact hK.elim
    · exact hK.elim

/-- n copies of a list. -/
def repL (l : List SV) : Nat → List SV
  | 0 => []
  | n + 1 => l ++ repL l n
theorem repL_sound {ρ : Rho} {l : List SV} {z : List Value} (hd : DenL ρ l z) (n : Nat) :
    DenL ρ (repL l n) ((Array.range (n * z.length)).map fun i => z.toArray[i % z.toArray.size]!).toList := by
  induction n with
  | zero => exact .nil (by simp)
  | succ n ih =>
    have : ((Array.range ((n + 1) * z.length)).map fun i => z.toArray[i % z.toArray.size]!).toList = z ++ ((Array.range (n * z.length)).map fun i => z.toArray[i % z.toArray.size]!).toList := by
      apply List.ext_getElem?
      intro i
      rcases Nat.lt_or_ge i z.length with hi | hi
      · rw [List.getElem?_append_left hi]
        have hlt : i < (n + 1) * z.length := by rw [Nat.add_mul]; omega
        simp only [Array.toList_map, List.getElem?_map, Array.toList_range, List.getElem?_range hlt, Option.map_some, List.size_toArray, Nat.mod_eq_of_lt hi]
        simp [hi]
      · rw [List.getElem?_append_right hi]
        by_cases hlt : i < (n + 1) * z.length
        · have hlt' : i - z.length < n * z.length := by rw [Nat.add_mul] at hlt; omega
          simp only [Array.toList_map, List.getElem?_map, Array.toList_range, List.getElem?_range hlt, List.getElem?_range hlt', Option.map_some, List.size_toArray]
          rw [Nat.mod_eq_sub_mod hi]
        · rw [List.getElem?_eq_none (by simp; omega), List.getElem?_eq_none (by simp; rw [Nat.add_mul] at hlt; omega)]
    rw [this]
    exact hd.append ih

def buildSliceS (T : Tree) (t len : Nat) (parts : List (Nat × SV)) (hp : List Blk) (K : SV → List Blk → Prop) : Prop :=
  match T.find t with
  | none => False
  | some ti => match ti.kind with
    | .slice e => match T.find e with
      | none => False
      | some te => if len * te.size ≤ 16777216 then (if len * te.size = 0 then False else (if sizeL te.zero = some te.size then
          (match fillS (placeS T (.array len e)) (repL te.zero len) parts with
            | some l => K (.slc hp.length 0 te.size (.lit 0) (.lit len) (.lit len)) (hp ++ [.cells e l])
            | none => False) else False)) else False
    | _ => False
theorem buildSliceS_sound {P : Program} {T : Tree} (hT : TOk P T) {t len : Nat} {ρ : Rho} {hp : List Blk} {w : World} (h : HSat ρ hp w) {parts : List (Nat × SV)} {cs : List (Nat × Value)} {K : SV → List Blk → Prop}
    (hpt : DenP ρ parts cs) (hK : buildSliceS T t len parts hp K) : Runs P (valS (Instr.buildSlice t len cs.toArray)) ρ w false .new K := by
  unfold buildSliceS at hK
  split at hK
  · exact hK.elim
  · rename_i ti hti
    obtain ⟨d, h1, h2⟩ := (hT t ti hti).under
    split at hK
    · rename_i e hk
      rw [hk] at h2
      simp only [kindOk] at h2
      subst h2
      split at hK
      · exact hK.elim
      · rename_i te hte
        obtain ⟨z, hz, hzd⟩ := (hT e te hte).zeroV
        split at hK
        · rename_i hbig
          split at hK
          · exact hK.elim
          · rename_i hne
            split at hK
            · rename_i hsz
              split at hK
              · rename_i l hl
                have hlen := sizeL_len (hzd.weak (ρ := ρ)) hsz
                have hpl : ∀ i r, placeS T (.array len e) i = some r → (fun i => some (i * te.size, te.size)) i = some r := by
                  intro i r hr; simpa [placeS, hte] using hr
                have hd0 := repL_sound (hzd.weak (ρ := ρ)) len
                rw [hlen] at hd0
                obtain ⟨cells', f1, f2, f3⟩ := fillS_sound hpl hpt hd0 hl
                refine Runs.newSlice h f2 (fun x => run_valS ?_) hK
                unfold Instr.buildSlice
                simp only [Sem.run_bind, h1 x, Result.andThen_ok, (hT e te hte).size x]
                rw [if_neg (by omega)]
                simp only [hne, if_false, Sem.run_bind, hz x, Result.andThen_ok, Sem.run_pure]
                have f1' : Instr.fill (fun i => some (i * te.size, te.size)) ((Array.range (len * te.size)).map fun x => z.cells[x % z.cells.size]!) cs = some cells' := by
                  have : z.cells.toList.toArray = z.cells := by simp
                  rw [this] at f1; exact f1
                rw [f1']
                simp [newRow]
              · exact hK.elim
            · exact hK.elim
        · exact hK.elim
    · exact hK.elim
#print axioms buildSliceS_sound
end
end Go.Vex
