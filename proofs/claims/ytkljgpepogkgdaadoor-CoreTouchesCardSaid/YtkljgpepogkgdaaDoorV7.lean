/-
  VEX, part 7: slices (cut, made, written out), lengths; the evaluator of one operation, and that the model does as it says.
-/
import Derived.Test.YtkljgpepogkgdaaDoorV6
set_option linter.unusedSimpArgs false
namespace Go.Vex
set_option linter.unusedVariables false
noncomputable section


def sSubN (a b : S Nat) : S Nat :=
  match b with
  | .lit 0 => a
  | .lit b => match a with
    | .lit a => .lit (a - b)
    | .ex a => .ex (subN a b)
  | .ex b => .ex (subN a.val b)
theorem sSubN_val (a b : S Nat) : (sSubN a b).val = a.val - b.val := by
  unfold sSubN; split
  · simp
  · split <;> simp [subN_eq]
  · simp [subN_eq]
def sShN (cap o l : S Nat) : S Nat :=
  match l with
  | .lit 0 => o
  | l => .ex (shN cap.val o.val l.val)
theorem sShN_val (cap o l : S Nat) : (sShN cap o l).val = if cap.val = l.val then o.val else o.val + l.val := by
  unfold sShN; split
  · split <;> simp_all
  · rw [shN_eq]; simp
def sOfN (a : S Nat) : S Int := sUn (fun (n : Nat) => (n : Int)) ofN a
theorem sOfN_val (a : S Nat) : (sOfN a).val = (a.val : Int) := sUn_val (fun (n : Nat) => by rw [ofN_eq]) a

def bndS (n : S Int) (m : S Nat) (K : S Nat → Prop) : Prop :=
  match n with
  | .lit i => match m with
    | .lit m => if 0 ≤ i then (if i ≤ m then K (.lit i.toNat) else False) else False
    | .ex m => if i = 0 then K (.lit 0) else leR i m ∧ K (.lit i.toNat)
  | .ex i => leR i m.val ∧ K (.ex (toN i))
theorem bndS_sound {n : S Int} {m : S Nat} {K : S Nat → Prop} (h : bndS n m K) : 0 ≤ n.val ∧ n.val ≤ m.val ∧ ∃ j : S Nat, j.val = n.val.toNat ∧ K j := by
  unfold bndS at h
  split at h
  · split at h
    · split at h
      · split at h
        · exact ⟨‹_›, ‹_›, _, rfl, h⟩
        · exact h.elim
      · exact h.elim
    · split at h
      · rename_i e; subst e; exact ⟨by simp, by simp, _, by simp, h⟩
      · obtain ⟨h1, h2⟩ := h; rw [leR_eq] at h1; exact ⟨h1.1, h1.2, _, rfl, h2⟩
  · obtain ⟨h1, h2⟩ := h; rw [leR_eq] at h1; exact ⟨h1.1, h1.2, _, by rw [toN_eq]; rfl, h2⟩

/-- A bound of a slice that may be left out. -/
def bndO (x : Option SV) (dft m : S Nat) (K : S Nat → Prop) : Prop :=
  match x with
  | none => K dft
  | some (.i _ n) => bndS n m K
  | _ => False

theorem run_bound {P : Program} {k : IntKind} {n : Int} {m : Nat} {code : BoundsCode} (h0 : 0 ≤ n) (h1 : n ≤ m) (w : World) :
    (Instr.sliceBound (.int k n) m code).run P w = .ok n.toNat w := by
  unfold Instr.sliceBound
  simp [asIntOf, h0, h1]

/-- The operands that may be left out denote. -/
def DenO (ρ : Rho) : Option SV → Option Value → Prop
  | none, none => True
  | some x, some v => Den ρ x v
  | _, _ => False

theorem run_bounds {P : Program} {isS : Bool} {len cap : S Nat} {lo hi : Option SV} {lo' hi' : Option Value} {ρ : Rho} {K : S Nat → S Nat → Prop}
    (hl : DenO ρ lo lo') (hh : DenO ρ hi hi') (hK : bndO hi len cap fun h => bndO lo (.lit 0) h fun l => K l h) (hlen : len.val ≤ cap.val) :
    ∃ l h : S Nat, (∀ w, (Instr.sliceBounds isS len.val cap.val lo' hi' none).run P w = .ok (l.val, h.val, cap.val) w) ∧ l.val ≤ h.val ∧ h.val ≤ cap.val ∧ K l h := by
  have key : ∀ (h : S Nat), h.val ≤ cap.val → (∀ w, ((match hi', (none : Option Value) with
      | some v, some _ => Instr.sliceBound v cap.val .slice3B
      | some v, none => Instr.sliceBound v cap.val (if isS then .sliceAcap else .sliceAlen)
      | none, none => pure len.val
      | none, some _ => stuck "Slice: max without high") : Sem Nat).run P w = .ok h.val w) → (bndO lo (.lit 0) h fun l => K l h) →
      ∃ l h : S Nat, (∀ w, (Instr.sliceBounds isS len.val cap.val lo' hi' none).run P w = .ok (l.val, h.val, cap.val) w) ∧ l.val ≤ h.val ∧ h.val ≤ cap.val ∧ K l h := by
    intro h hle hrun hK
    cases lo with
    | none =>
      cases lo' with
      | none =>
        refine ⟨.lit 0, h, ?_, by simp, hle, hK⟩
        intro w
        unfold Instr.sliceBounds
        have := hrun w
        cases hi' <;> simp at this ⊢ <;> simp [this]
      | some v => exact hl.elim
    | some x =>
      cases lo' with
      | none => exact hl.elim
      | some v =>
        cases x with
        | i k n =>
          obtain ⟨g1, g2, j, g3, g4⟩ := bndS_sound (show bndS n h (fun l => K l h) from hK)
          cases hl with
          | i hv =>
            subst hv
            refine ⟨j, h, ?_, by rw [g3]; omega, hle, g4⟩
            intro w
            unfold Instr.sliceBounds
            have := hrun w
            cases hi' <;> simp at this ⊢ <;> simp [this, run_bound g1 g2, g3]
        | _ => exact (show False from hK).elim
  cases hi with
  | none =>
    cases hi' with
    | none => exact key len hlen (fun w => rfl) hK
    | some v => exact hh.elim
  | some x =>
    cases hi' with
    | none => exact hh.elim
    | some v =>
      cases x with
      | i k n =>
        obtain ⟨g1, g2, j, g3, g4⟩ := bndS_sound (show bndS n cap (fun h => bndO lo (.lit 0) h fun l => K l h) from hK)
        cases hh with
        | i hv =>
          subst hv
          exact key j (by rw [g3]; omega) (fun w => by simp [run_bound g1 g2, g3]) g4
      | _ => exact (show False from hK).elim

def sliceS (T : Tree) (t : Nat) (x : SV) (lo hi : Option SV) (K : SV → Prop) : Prop :=
  match T.find t with
  | none => False
  | some ti => match ti.kind with
    | .slice e => match T.find e with
      | none => False
      | some te => match x with
        | .slc y l w o len cap => if w = te.size then (nLe len.val cap.val ∧ bndO hi len cap fun h => bndO lo (.lit 0) h fun j => K (.slc y l w (sShN cap o j) (sSubN h j) (sSubN cap j))) else False
        | .nilslc => bndO hi (.lit 0) (.lit 0) fun h => bndO lo (.lit 0) h fun j => K .nilslc
        | _ => False
    | .array n e => match T.find e with
      | none => False
      | some te => match x with
        | .p y (.at l) => bndO hi (.lit n) (.lit n) fun h => bndO lo (.lit 0) h fun j => K (.slc y l te.size (sShN (.lit n) (.lit 0) j) (sSubN h j) (sSubN (.lit n) j))
        | _ => False
    | _ => False

theorem sliceS_sound {P : Program} {T : Tree} (hT : TOk P T) {t : Nat} {x : SV} {lo hi : Option SV} {lo' hi' : Option Value} {K : SV → Prop} {ρ : Rho} {u : Value}
    (hx : Den ρ x u) (hl : DenO ρ lo lo') (hh : DenO ρ hi hi') (h : sliceS T t x lo hi K) : Gives P (Instr.sliceAt t u lo' hi' none) ρ K := by
  unfold sliceS at h
  split at h
  · exact h.elim
  · rename_i ti hti
    obtain ⟨d, h1, h2⟩ := (hT t ti hti).under
    split at h
    · rename_i e hk
      rw [hk] at h2
      simp only [kindOk] at h2
      subst h2
      split at h
      · exact h.elim
      · rename_i te hte
        split at h
        · rename_i y l ws o len cap
          split at h
          · rename_i hw
            obtain ⟨hlen, h⟩ := h
            rw [nLe_eq] at hlen
            obtain ⟨j, hh', g1, g2, g3, g4⟩ := run_bounds (P := P) (isS := true) hl hh h hlen
            cases hx with
            | slc r hx hn hc =>
              subst hc
              refine ⟨_, .slice (r.map fun q => ⟨q.1, q.2 + (l + (sShN cap o j).val * ws), none⟩) (sSubN hh' j).val (sSubN cap j).val, ?_, .slc r hx ?_ rfl, g4⟩
              · intro w
                unfold Instr.sliceAt Instr.slice
                simp only [Sem.run_bind, h1 w, Result.andThen_ok, g1, (hT e te hte).size w, Sem.run_pure, sSubN_val, sShN_val]
                congr 2
                split
                · simp
                · rename_i e1
                  cases r with
                  | none => simp
                  | some q => simp [addr_add, hw, Nat.add_mul, Nat.add_assoc]
              · intro e1
                have := hn e1
                rw [sSubN_val, sSubN_val]; omega
          · exact h.elim
        · cases hx with
          | nilslc hc =>
            subst hc
            obtain ⟨j, hh', g1, g2, g3, g4⟩ := run_bounds (P := P) (isS := true) (len := .lit 0) (cap := .lit 0) hl hh h (by simp)
            simp only [S.val_lit] at g1 g3
            refine ⟨_, .slice none 0 0, ?_, .nilslc rfl, g4⟩
            intro w
            unfold Instr.sliceAt Instr.slice
            simp only [Sem.run_bind, h1 w, Result.andThen_ok, g1, (hT e te hte).size w, Sem.run_pure]
            have e1 : j.val = 0 := by omega
            have e2 : hh'.val = 0 := by omega
            simp [e1, e2]
        · exact h.elim
    · rename_i n e hk
      rw [hk] at h2
      simp only [kindOk] at h2
      subst h2
      split at h
      · exact h.elim
      · rename_i te hte
        split at h
        · rename_i y l
          obtain ⟨j, hh', g1, g2, g3, g4⟩ := run_bounds (P := P) (isS := false) (len := .lit n) (cap := .lit n) hl hh h (by simp)
          simp only [S.val_lit] at g1
          cases hx with
          | p b o0 hx hc =>
            subst hc
            refine ⟨_, .slice (some ⟨b, o0 + (l + (sShN (.lit n) (.lit 0) j).val * te.size), none⟩) (sSubN hh' j).val (sSubN (.lit n) j).val, ?_, .slc (some (b, o0)) hx (by simp) rfl, g4⟩
            intro w
            unfold Instr.sliceAt
            have es : (sShN (.lit n) (.lit 0) j).val = if n = j.val then 0 else j.val := by rw [sShN_val]; simp
            rw [es]
            simp only [Sem.run_bind, h1 w, Result.andThen_ok, Instr.sureAddr, Sem.run_pure, g1, (hT e te hte).size w, sSubN_val, S.val_lit]
            congr 3
            split <;> simp [addr_add, Off.val, Nat.add_assoc]
        · exact h.elim
    · exact h.elim
#print axioms sliceS_sound
end
end Go.Vex
