/-
  CoreTouches: a step hangs on what it reads, and writes what it writes. Plain Lean.
-/
import Derived.Test.YtkljgpepogkgdaaDoorS5
import Derived.Test.YtkljgpepogkgdaaDoorU1
import Derived.Test.YtkljgpepogkgdaaDoorP9
set_option linter.unusedVariables false
set_option linter.unusedSimpArgs false
namespace Go.Proofs.YtkljgpepogkgdaaDoor
open Go Go.Vex
set_option maxRecDepth 20000
noncomputable def rbit (rd k : Int) : Int := remI (shrI .u16 rd k) 2
def bitsR (a b : Int) : Int := IntKind.u16.wrap (BitVec.ofInt 16 (IntKind.u16.wrap (BitVec.ofInt 16 (IntKind.u16.wrap (1 * 2 ^ min a.toNat 16)) ||| BitVec.ofInt 16 (IntKind.u16.wrap (1 * 2 ^ min b.toNat 16))).toNat) &&& ~~~ BitVec.ofInt 16 1).toNat
def bitsW (a : Int) : Int := IntKind.u16.wrap (BitVec.ofInt 16 (IntKind.u16.wrap (1 * 2 ^ min a.toNat 16)) &&& ~~~ BitVec.ofInt 16 1).toNat
theorem rbit_tab : ∀ a b k : Fin 16, 1 ≤ k.val → ((bitsR a.val b.val).fdiv (2 ^ min (k.val : Int).toNat 16)).tmod 2 = if k = a ∨ k = b then 1 else 0 := by decide +kernel
theorem wbit_tab : ∀ a k : Fin 16, 1 ≤ k.val → ((bitsW a.val).fdiv (2 ^ min (k.val : Int).toNat 16)).tmod 2 = if k = a then 1 else 0 := by decide +kernel
theorem fin_of {a : Int} (h : 0 ≤ a ∧ a < 16) : ∃ x : Fin 16, a = (x.val : Int) := ⟨⟨a.toNat, by omega⟩, by simp; omega⟩
theorem rbit_reads {op a b k : Int} (hop : op ≠ 40) (ha : 0 ≤ a ∧ a < 16) (hb : 0 ≤ b ∧ b < 16) (hk : 1 ≤ k ∧ k < 16) : rbit (readsF op a b) k = if k = a ∨ k = b then 1 else 0 := by
  obtain ⟨x, rfl⟩ := fin_of ha
  obtain ⟨y, rfl⟩ := fin_of hb
  obtain ⟨z, rfl⟩ := fin_of (a := k) ⟨by omega, hk.2⟩
  have := rbit_tab x y z (by omega)
  unfold rbit readsF
  rw [if_neg hop, remI_eq, shrI_eq, clrI_eq, orI_eq, shlI_eq, shlI_eq]
  refine Eq.trans this ?_
  by_cases e : z = x ∨ z = y
  · rw [if_pos e, if_pos (by rcases e with e | e <;> subst e <;> simp)]
  · rw [if_neg e, if_neg (by intro h; apply e; rcases h with h | h; exact .inl (Fin.ext (by omega)); exact .inr (Fin.ext (by omega)))]
theorem wbit_writes {op d k : Int} (hop : op ≠ 40) (hd : 0 ≤ d ∧ d < 16) (hk : 1 ≤ k ∧ k < 16) : rbit (writesF op d) k = if k = d then 1 else 0 := by
  obtain ⟨x, rfl⟩ := fin_of hd
  obtain ⟨z, rfl⟩ := fin_of (a := k) ⟨by omega, hk.2⟩
  have := wbit_tab x z (by omega)
  unfold rbit writesF
  rw [if_neg hop, remI_eq, shrI_eq, clrI_eq, shlI_eq]
  refine Eq.trans this ?_
  by_cases e : z = x
  · rw [if_pos e, if_pos (by subst e; rfl)]
  · rw [if_neg e, if_neg (by intro h; apply e; exact Fin.ext (by omega))]
theorem rbit_0 (k : Int) : rbit 0 k = 0 := by
  unfold rbit
  rw [remI_eq, shrI_eq]
  simp
/-- The registers, those that are not read changed: as far as the loop has come. -/
noncomputable def mixF (rd : Int) (R O : List Int) : Nat → List Int
  | 0 => R
  | n + 1 => if 1 ≤ n ∧ rbit rd n = 0 then (mixF rd R O n).set n (O.getD n 0) else mixF rd R O n
theorem mix_len (rd : Int) (R O : List Int) (n : Nat) : (mixF rd R O n).length = R.length := by
  induction n with
  | zero => rfl
  | succ n ih => unfold mixF; split <;> simp [ih]
theorem mix_one (rd : Int) (R O : List Int) : mixF rd R O 1 = R := by
  simp [mixF]
theorem mix_keep (rd : Int) (R O : List Int) (n j : Nat) (hj : 1 ≤ j → rbit rd j ≠ 0) : (mixF rd R O n).getD j 0 = R.getD j 0 := by
  induction n with
  | zero => rfl
  | succ n ih =>
    unfold mixF
    split
    · rename_i h
      have hne : n ≠ j := fun e => hj (by omega) (by rw [← e]; exact h.2)
      rw [List.getD_eq_getElem?_getD, List.getElem?_set_ne hne, ← List.getD_eq_getElem?_getD]
      exact ih
    · exact ih
theorem mix_U {rd : Int} {R O : List Int} (hR : ∀ z ∈ R, U32 z) (hO : ∀ z ∈ O, U32 z) (n : Nat) : ∀ z ∈ mixF rd R O n, U32 z := by
  induction n with
  | zero => exact hR
  | succ n ih =>
    unfold mixF
    split
    · intro z hz
      rcases List.mem_or_eq_of_mem_set hz with hz | hz
      · exact ih z hz
      · subst hz
        rw [List.getD_eq_getElem?_getD]
        cases e : O[n]? with
        | none => exact ⟨by decide, by decide⟩
        | some z => exact hO z (List.mem_of_getElem? e)
    · exact ih
def formD (k : Nat) : Bool := decide (k ≤ 28) || k == 38 || k == 39 || k == 41
/-- What two runs that agree on what is read have in common. -/
structure Two (k : Nat) (d : Int) (s t : RegS) (o p : Out) : Prop where
  res : o.res = p.res
  bd : o.bd = p.bd
  pc : o.regs.pc = p.regs.pc
  vec : o.regs.vec = p.regs.vec
  back : o.regs.back = p.regs.back
  on : o.regs.on = p.regs.on
  hd : o.regs.hd = p.regs.hd
  r : (formD k = false ∧ o.regs.r = s.r ∧ p.regs.r = t.r) ∨ ∃ v, o.regs.r = setR s.r d v ∧ p.regs.r = setR t.r d v
theorem exec_two (k : Nat) (d a b imm : Int) (s t : RegS) (bd : BoardS) (cyc : Int) (h1 : s.pc = t.pc) (h2 : s.vec = t.vec) (h3 : s.back = t.back) (h4 : s.on = t.on) (h5 : s.hd = t.hd)
    (ha : k ≠ 40 → rg s a = rg t a) (hb : k ≠ 40 → rg s b = rg t b) (hf : pick1 bd.faults bd.nf = 0) (o p : Out) (ho : execF k d a b imm s bd cyc = o) (hp : execF k d a b imm t bd cyc = p) : Two k d s t o p := by
  unfold execF at ho hp
  simp only at ho hp
  by_cases k13 : k ≤ 13
  · rw [if_pos k13] at ho hp
    subst ho; subst hp
    exact ⟨rfl, rfl, by simp only [h1], h2, h3, h4, h5, .inr ⟨_, rfl, by simp only [ha (by omega), hb (by omega)]⟩⟩
  rw [if_neg k13] at ho hp
  by_cases k22 : k ≤ 22
  · rw [if_pos k22] at ho hp
    subst ho; subst hp
    exact ⟨rfl, rfl, by simp only [h1], h2, h3, h4, h5, .inr ⟨_, rfl, by simp only [ha (by omega)]⟩⟩
  rw [if_neg k22] at ho hp
  by_cases k23 : k = 23
  · rw [if_pos k23] at ho hp
    subst ho; subst hp
    exact ⟨rfl, rfl, by simp only [h1], h2, h3, h4, h5, .inr ⟨_, rfl, rfl⟩⟩
  rw [if_neg k23] at ho hp
  by_cases k28 : k ≤ 28
  · rw [if_pos k28, if_pos hf] at ho hp
    subst ho; subst hp
    exact ⟨by simp only [ha (by omega)], by simp only [ha (by omega)], by simp only [h1], h2, h3, h4, h5, .inr ⟨_, rfl, rfl⟩⟩
  rw [if_neg k28] at ho hp
  by_cases k31 : k ≤ 31
  · rw [if_pos k31, if_pos hf] at ho hp
    subst ho; subst hp
    refine ⟨rfl, by simp only [ha (by omega), hb (by omega)], by simp only [h1], h2, h3, h4, h5, .inl ⟨?_, rfl, rfl⟩⟩
    have : k = 29 ∨ k = 30 ∨ k = 31 := by omega
    rcases this with rfl | rfl | rfl <;> rfl
  rw [if_neg k31] at ho hp
  by_cases k37 : k ≤ 37
  · rw [if_pos k37] at ho hp
    subst ho; subst hp
    refine ⟨rfl, rfl, by simp only [ha (by omega), hb (by omega), h1], h2, h3, h4, h5, .inl ⟨?_, rfl, rfl⟩⟩
    have : k = 32 ∨ k = 33 ∨ k = 34 ∨ k = 35 ∨ k = 36 ∨ k = 37 := by omega
    rcases this with rfl | rfl | rfl | rfl | rfl | rfl <;> rfl
  rw [if_neg k37] at ho hp
  by_cases k48 : k < 48
  · have : k = 38 ∨ k = 39 ∨ k = 40 ∨ k = 41 ∨ k = 42 ∨ k = 43 ∨ k = 44 ∨ k = 45 ∨ k = 46 ∨ k = 47 := by omega
    rcases this with rfl | rfl | rfl | rfl | rfl | rfl | rfl | rfl | rfl | rfl
    · subst ho; subst hp; exact ⟨rfl, rfl, by simp only [h1], h2, h3, h4, h5, .inr ⟨_, rfl, by simp only [h1]⟩⟩
    · subst ho; subst hp; exact ⟨rfl, rfl, by simp only [ha (by omega)], h2, h3, h4, h5, .inr ⟨_, rfl, by simp only [h1]⟩⟩
    · subst ho; subst hp; exact ⟨rfl, rfl, by simp only [h1], h2, h3, h4, h5, .inl ⟨rfl, rfl, rfl⟩⟩
    · subst ho; subst hp; exact ⟨rfl, rfl, by simp only [h1], h2, h3, h4, h5, .inr ⟨_, rfl, rfl⟩⟩
    · subst ho; subst hp; exact ⟨rfl, rfl, by simp only [h1], h2, h3, h4, h5, .inl ⟨rfl, rfl, rfl⟩⟩
    · subst ho; subst hp; exact ⟨rfl, rfl, by simp only [h1], h2, h3, rfl, h5, .inl ⟨rfl, rfl, rfl⟩⟩
    · subst ho; subst hp; exact ⟨rfl, rfl, by simp only [h1], h2, h3, rfl, h5, .inl ⟨rfl, rfl, rfl⟩⟩
    · by_cases hd : t.hd = true
      · simp only [h5, hd, if_true] at ho hp
        subst ho; subst hp; exact ⟨rfl, rfl, h3, h2, h3, h4, rfl, .inl ⟨rfl, rfl, rfl⟩⟩
      · simp only [h5, hd] at ho hp
        subst ho; subst hp; exact ⟨by simp [h1], rfl, h1, h2, h3, h4, h5, .inl ⟨rfl, rfl, rfl⟩⟩
    · subst ho; subst hp; exact ⟨rfl, rfl, by simp only [h1], ha (by omega), h3, h4, h5, .inl ⟨rfl, rfl, rfl⟩⟩
    · subst ho; subst hp; exact ⟨rfl, rfl, h1, h2, h3, h4, h5, .inl ⟨rfl, rfl, rfl⟩⟩
  · split at ho <;> first | omega | skip
    split at hp <;> first | omega | skip
    subst ho; subst hp
    refine ⟨rfl, rfl, by simp only [h1], h2, h3, h4, h5, .inl ⟨?_, rfl, rfl⟩⟩
    unfold formD; simp; omega
theorem decf_d {w : Int} (h0 : 0 ≤ w) (h1 : w < 4294967296) {i : Ins} (h : decF w = some i) : (formD i.op = false → i.d = 0) ∧ (i.op = 40 → i.d = 0) ∧ (0 ≤ i.d ∧ i.d < 16) ∧ (0 ≤ i.a ∧ i.a < 16) ∧ (0 ≤ i.b ∧ i.b < 16) := by
  have a1 := x22_rng w
  have a2 := x18_rng w
  have a3 := x14_rng w
  rcases k_cases h0 h1 with hk | hk | hk | hk | hk | hk | hk | hk | hk | hk | hk | hk | hk | hk | hk | hk | hk | hk | hk | hk | hk | hk | hk | hk | hk | hk | hk | hk | hk | hk | hk | hk | hk | hk | hk | hk | hk | hk | hk | hk | hk | hk | hk | hk | hk | hk | hk | hk | hk
  · exfalso
    have : formF (w / 67108864).toNat = 0 := by
      have e : (w / 67108864).toNat = 0 ∨ 49 ≤ (w / 67108864).toNat := by omega
      rcases e with e | e
      · rw [e]; rfl
      · obtain ⟨m, hm⟩ := Nat.exists_eq_add_of_le e
        rw [hm, Nat.add_comm]; rfl
    unfold decF at h; simp only [this] at h; cases h
  · have e : (w / 67108864).toNat = 1 := by omega
    unfold decF at h; rw [e] at h
    simp only [formF] at h
    split at h
    · cases h; exact ⟨(fun hh => absurd (show formD 1 = false from hh) (by decide)), (fun hh => absurd (show 1 = 40 from hh) (by decide)), a1, a2, a3⟩
    · cases h
  · have e : (w / 67108864).toNat = 2 := by omega
    unfold decF at h; rw [e] at h
    simp only [formF] at h
    split at h
    · cases h; exact ⟨(fun hh => absurd (show formD 2 = false from hh) (by decide)), (fun hh => absurd (show 2 = 40 from hh) (by decide)), a1, a2, a3⟩
    · cases h
  · have e : (w / 67108864).toNat = 3 := by omega
    unfold decF at h; rw [e] at h
    simp only [formF] at h
    split at h
    · cases h; exact ⟨(fun hh => absurd (show formD 3 = false from hh) (by decide)), (fun hh => absurd (show 3 = 40 from hh) (by decide)), a1, a2, a3⟩
    · cases h
  · have e : (w / 67108864).toNat = 4 := by omega
    unfold decF at h; rw [e] at h
    simp only [formF] at h
    split at h
    · cases h; exact ⟨(fun hh => absurd (show formD 4 = false from hh) (by decide)), (fun hh => absurd (show 4 = 40 from hh) (by decide)), a1, a2, a3⟩
    · cases h
  · have e : (w / 67108864).toNat = 5 := by omega
    unfold decF at h; rw [e] at h
    simp only [formF] at h
    split at h
    · cases h; exact ⟨(fun hh => absurd (show formD 5 = false from hh) (by decide)), (fun hh => absurd (show 5 = 40 from hh) (by decide)), a1, a2, a3⟩
    · cases h
  · have e : (w / 67108864).toNat = 6 := by omega
    unfold decF at h; rw [e] at h
    simp only [formF] at h
    split at h
    · cases h; exact ⟨(fun hh => absurd (show formD 6 = false from hh) (by decide)), (fun hh => absurd (show 6 = 40 from hh) (by decide)), a1, a2, a3⟩
    · cases h
  · have e : (w / 67108864).toNat = 7 := by omega
    unfold decF at h; rw [e] at h
    simp only [formF] at h
    split at h
    · cases h; exact ⟨(fun hh => absurd (show formD 7 = false from hh) (by decide)), (fun hh => absurd (show 7 = 40 from hh) (by decide)), a1, a2, a3⟩
    · cases h
  · have e : (w / 67108864).toNat = 8 := by omega
    unfold decF at h; rw [e] at h
    simp only [formF] at h
    split at h
    · cases h; exact ⟨(fun hh => absurd (show formD 8 = false from hh) (by decide)), (fun hh => absurd (show 8 = 40 from hh) (by decide)), a1, a2, a3⟩
    · cases h
  · have e : (w / 67108864).toNat = 9 := by omega
    unfold decF at h; rw [e] at h
    simp only [formF] at h
    split at h
    · cases h; exact ⟨(fun hh => absurd (show formD 9 = false from hh) (by decide)), (fun hh => absurd (show 9 = 40 from hh) (by decide)), a1, a2, a3⟩
    · cases h
  · have e : (w / 67108864).toNat = 10 := by omega
    unfold decF at h; rw [e] at h
    simp only [formF] at h
    split at h
    · cases h; exact ⟨(fun hh => absurd (show formD 10 = false from hh) (by decide)), (fun hh => absurd (show 10 = 40 from hh) (by decide)), a1, a2, a3⟩
    · cases h
  · have e : (w / 67108864).toNat = 11 := by omega
    unfold decF at h; rw [e] at h
    simp only [formF] at h
    split at h
    · cases h; exact ⟨(fun hh => absurd (show formD 11 = false from hh) (by decide)), (fun hh => absurd (show 11 = 40 from hh) (by decide)), a1, a2, a3⟩
    · cases h
  · have e : (w / 67108864).toNat = 12 := by omega
    unfold decF at h; rw [e] at h
    simp only [formF] at h
    split at h
    · cases h; exact ⟨(fun hh => absurd (show formD 12 = false from hh) (by decide)), (fun hh => absurd (show 12 = 40 from hh) (by decide)), a1, a2, a3⟩
    · cases h
  · have e : (w / 67108864).toNat = 13 := by omega
    unfold decF at h; rw [e] at h
    simp only [formF] at h
    split at h
    · cases h; exact ⟨(fun hh => absurd (show formD 13 = false from hh) (by decide)), (fun hh => absurd (show 13 = 40 from hh) (by decide)), a1, a2, a3⟩
    · cases h
  · have e : (w / 67108864).toNat = 14 := by omega
    unfold decF at h; rw [e] at h
    simp only [formF] at h
    cases h; exact ⟨(fun hh => absurd (show formD 14 = false from hh) (by decide)), (fun hh => absurd (show 14 = 40 from hh) (by decide)), a1, a2, (show (0 : Int) ≤ 0 ∧ (0 : Int) < 16 by decide)⟩
  · have e : (w / 67108864).toNat = 15 := by omega
    unfold decF at h; rw [e] at h
    simp only [formF] at h
    cases h; exact ⟨(fun hh => absurd (show formD 15 = false from hh) (by decide)), (fun hh => absurd (show 15 = 40 from hh) (by decide)), a1, a2, (show (0 : Int) ≤ 0 ∧ (0 : Int) < 16 by decide)⟩
  · have e : (w / 67108864).toNat = 16 := by omega
    unfold decF at h; rw [e] at h
    simp only [formF] at h
    cases h; exact ⟨(fun hh => absurd (show formD 16 = false from hh) (by decide)), (fun hh => absurd (show 16 = 40 from hh) (by decide)), a1, a2, (show (0 : Int) ≤ 0 ∧ (0 : Int) < 16 by decide)⟩
  · have e : (w / 67108864).toNat = 17 := by omega
    unfold decF at h; rw [e] at h
    simp only [formF] at h
    cases h; exact ⟨(fun hh => absurd (show formD 17 = false from hh) (by decide)), (fun hh => absurd (show 17 = 40 from hh) (by decide)), a1, a2, (show (0 : Int) ≤ 0 ∧ (0 : Int) < 16 by decide)⟩
  · have e : (w / 67108864).toNat = 18 := by omega
    unfold decF at h; rw [e] at h
    simp only [formF] at h
    split at h
    · cases h; exact ⟨(fun hh => absurd (show formD 18 = false from hh) (by decide)), (fun hh => absurd (show 18 = 40 from hh) (by decide)), a1, a2, (show (0 : Int) ≤ 0 ∧ (0 : Int) < 16 by decide)⟩
    · cases h
  · have e : (w / 67108864).toNat = 19 := by omega
    unfold decF at h; rw [e] at h
    simp only [formF] at h
    split at h
    · cases h; exact ⟨(fun hh => absurd (show formD 19 = false from hh) (by decide)), (fun hh => absurd (show 19 = 40 from hh) (by decide)), a1, a2, (show (0 : Int) ≤ 0 ∧ (0 : Int) < 16 by decide)⟩
    · cases h
  · have e : (w / 67108864).toNat = 20 := by omega
    unfold decF at h; rw [e] at h
    simp only [formF] at h
    split at h
    · cases h; exact ⟨(fun hh => absurd (show formD 20 = false from hh) (by decide)), (fun hh => absurd (show 20 = 40 from hh) (by decide)), a1, a2, (show (0 : Int) ≤ 0 ∧ (0 : Int) < 16 by decide)⟩
    · cases h
  · have e : (w / 67108864).toNat = 21 := by omega
    unfold decF at h; rw [e] at h
    simp only [formF] at h
    cases h; exact ⟨(fun hh => absurd (show formD 21 = false from hh) (by decide)), (fun hh => absurd (show 21 = 40 from hh) (by decide)), a1, a2, (show (0 : Int) ≤ 0 ∧ (0 : Int) < 16 by decide)⟩
  · have e : (w / 67108864).toNat = 22 := by omega
    unfold decF at h; rw [e] at h
    simp only [formF] at h
    cases h; exact ⟨(fun hh => absurd (show formD 22 = false from hh) (by decide)), (fun hh => absurd (show 22 = 40 from hh) (by decide)), a1, a2, (show (0 : Int) ≤ 0 ∧ (0 : Int) < 16 by decide)⟩
  · have e : (w / 67108864).toNat = 23 := by omega
    unfold decF at h; rw [e] at h
    simp only [formF] at h
    split at h
    · cases h; exact ⟨(fun hh => absurd (show formD 23 = false from hh) (by decide)), (fun hh => absurd (show 23 = 40 from hh) (by decide)), a1, (show (0 : Int) ≤ 0 ∧ (0 : Int) < 16 by decide), (show (0 : Int) ≤ 0 ∧ (0 : Int) < 16 by decide)⟩
    · cases h
  · have e : (w / 67108864).toNat = 24 := by omega
    unfold decF at h; rw [e] at h
    simp only [formF] at h
    cases h; exact ⟨(fun hh => absurd (show formD 24 = false from hh) (by decide)), (fun hh => absurd (show 24 = 40 from hh) (by decide)), a1, a2, (show (0 : Int) ≤ 0 ∧ (0 : Int) < 16 by decide)⟩
  · have e : (w / 67108864).toNat = 25 := by omega
    unfold decF at h; rw [e] at h
    simp only [formF] at h
    cases h; exact ⟨(fun hh => absurd (show formD 25 = false from hh) (by decide)), (fun hh => absurd (show 25 = 40 from hh) (by decide)), a1, a2, (show (0 : Int) ≤ 0 ∧ (0 : Int) < 16 by decide)⟩
  · have e : (w / 67108864).toNat = 26 := by omega
    unfold decF at h; rw [e] at h
    simp only [formF] at h
    cases h; exact ⟨(fun hh => absurd (show formD 26 = false from hh) (by decide)), (fun hh => absurd (show 26 = 40 from hh) (by decide)), a1, a2, (show (0 : Int) ≤ 0 ∧ (0 : Int) < 16 by decide)⟩
  · have e : (w / 67108864).toNat = 27 := by omega
    unfold decF at h; rw [e] at h
    simp only [formF] at h
    cases h; exact ⟨(fun hh => absurd (show formD 27 = false from hh) (by decide)), (fun hh => absurd (show 27 = 40 from hh) (by decide)), a1, a2, (show (0 : Int) ≤ 0 ∧ (0 : Int) < 16 by decide)⟩
  · have e : (w / 67108864).toNat = 28 := by omega
    unfold decF at h; rw [e] at h
    simp only [formF] at h
    cases h; exact ⟨(fun hh => absurd (show formD 28 = false from hh) (by decide)), (fun hh => absurd (show 28 = 40 from hh) (by decide)), a1, a2, (show (0 : Int) ≤ 0 ∧ (0 : Int) < 16 by decide)⟩
  · have e : (w / 67108864).toNat = 29 := by omega
    unfold decF at h; rw [e] at h
    simp only [formF] at h
    cases h; exact ⟨(fun _ => rfl), (fun hh => absurd (show 29 = 40 from hh) (by decide)), (show (0 : Int) ≤ 0 ∧ (0 : Int) < 16 by decide), a1, a2⟩
  · have e : (w / 67108864).toNat = 30 := by omega
    unfold decF at h; rw [e] at h
    simp only [formF] at h
    cases h; exact ⟨(fun _ => rfl), (fun hh => absurd (show 30 = 40 from hh) (by decide)), (show (0 : Int) ≤ 0 ∧ (0 : Int) < 16 by decide), a1, a2⟩
  · have e : (w / 67108864).toNat = 31 := by omega
    unfold decF at h; rw [e] at h
    simp only [formF] at h
    cases h; exact ⟨(fun _ => rfl), (fun hh => absurd (show 31 = 40 from hh) (by decide)), (show (0 : Int) ≤ 0 ∧ (0 : Int) < 16 by decide), a1, a2⟩
  · have e : (w / 67108864).toNat = 32 := by omega
    unfold decF at h; rw [e] at h
    simp only [formF] at h
    cases h; exact ⟨(fun _ => rfl), (fun hh => absurd (show 32 = 40 from hh) (by decide)), (show (0 : Int) ≤ 0 ∧ (0 : Int) < 16 by decide), a1, a2⟩
  · have e : (w / 67108864).toNat = 33 := by omega
    unfold decF at h; rw [e] at h
    simp only [formF] at h
    cases h; exact ⟨(fun _ => rfl), (fun hh => absurd (show 33 = 40 from hh) (by decide)), (show (0 : Int) ≤ 0 ∧ (0 : Int) < 16 by decide), a1, a2⟩
  · have e : (w / 67108864).toNat = 34 := by omega
    unfold decF at h; rw [e] at h
    simp only [formF] at h
    cases h; exact ⟨(fun _ => rfl), (fun hh => absurd (show 34 = 40 from hh) (by decide)), (show (0 : Int) ≤ 0 ∧ (0 : Int) < 16 by decide), a1, a2⟩
  · have e : (w / 67108864).toNat = 35 := by omega
    unfold decF at h; rw [e] at h
    simp only [formF] at h
    cases h; exact ⟨(fun _ => rfl), (fun hh => absurd (show 35 = 40 from hh) (by decide)), (show (0 : Int) ≤ 0 ∧ (0 : Int) < 16 by decide), a1, a2⟩
  · have e : (w / 67108864).toNat = 36 := by omega
    unfold decF at h; rw [e] at h
    simp only [formF] at h
    cases h; exact ⟨(fun _ => rfl), (fun hh => absurd (show 36 = 40 from hh) (by decide)), (show (0 : Int) ≤ 0 ∧ (0 : Int) < 16 by decide), a1, a2⟩
  · have e : (w / 67108864).toNat = 37 := by omega
    unfold decF at h; rw [e] at h
    simp only [formF] at h
    cases h; exact ⟨(fun _ => rfl), (fun hh => absurd (show 37 = 40 from hh) (by decide)), (show (0 : Int) ≤ 0 ∧ (0 : Int) < 16 by decide), a1, a2⟩
  · have e : (w / 67108864).toNat = 38 := by omega
    unfold decF at h; rw [e] at h
    simp only [formF] at h
    cases h; exact ⟨(fun hh => absurd (show formD 38 = false from hh) (by decide)), (fun hh => absurd (show 38 = 40 from hh) (by decide)), a1, (show (0 : Int) ≤ 0 ∧ (0 : Int) < 16 by decide), (show (0 : Int) ≤ 0 ∧ (0 : Int) < 16 by decide)⟩
  · have e : (w / 67108864).toNat = 39 := by omega
    unfold decF at h; rw [e] at h
    simp only [formF] at h
    cases h; exact ⟨(fun hh => absurd (show formD 39 = false from hh) (by decide)), (fun hh => absurd (show 39 = 40 from hh) (by decide)), a1, a2, (show (0 : Int) ≤ 0 ∧ (0 : Int) < 16 by decide)⟩
  · have e : (w / 67108864).toNat = 40 := by omega
    unfold decF at h; rw [e] at h
    simp only [formF] at h
    split at h
    · cases h; exact ⟨(fun _ => rfl), (fun _ => rfl), (show (0 : Int) ≤ 0 ∧ (0 : Int) < 16 by decide), (show (0 : Int) ≤ 0 ∧ (0 : Int) < 16 by decide), (show (0 : Int) ≤ 0 ∧ (0 : Int) < 16 by decide)⟩
    · cases h
  · have e : (w / 67108864).toNat = 41 := by omega
    unfold decF at h; rw [e] at h
    simp only [formF] at h
    split at h
    · cases h; exact ⟨(fun hh => absurd (show formD 41 = false from hh) (by decide)), (fun hh => absurd (show 41 = 40 from hh) (by decide)), a1, (show (0 : Int) ≤ 0 ∧ (0 : Int) < 16 by decide), (show (0 : Int) ≤ 0 ∧ (0 : Int) < 16 by decide)⟩
    · cases h
  · have e : (w / 67108864).toNat = 42 := by omega
    unfold decF at h; rw [e] at h
    simp only [formF] at h
    split at h
    · cases h; exact ⟨(fun _ => rfl), (fun hh => absurd (show 42 = 40 from hh) (by decide)), (show (0 : Int) ≤ 0 ∧ (0 : Int) < 16 by decide), (show (0 : Int) ≤ 0 ∧ (0 : Int) < 16 by decide), (show (0 : Int) ≤ 0 ∧ (0 : Int) < 16 by decide)⟩
    · cases h
  · have e : (w / 67108864).toNat = 43 := by omega
    unfold decF at h; rw [e] at h
    simp only [formF] at h
    split at h
    · cases h; exact ⟨(fun _ => rfl), (fun hh => absurd (show 43 = 40 from hh) (by decide)), (show (0 : Int) ≤ 0 ∧ (0 : Int) < 16 by decide), (show (0 : Int) ≤ 0 ∧ (0 : Int) < 16 by decide), (show (0 : Int) ≤ 0 ∧ (0 : Int) < 16 by decide)⟩
    · cases h
  · have e : (w / 67108864).toNat = 44 := by omega
    unfold decF at h; rw [e] at h
    simp only [formF] at h
    split at h
    · cases h; exact ⟨(fun _ => rfl), (fun hh => absurd (show 44 = 40 from hh) (by decide)), (show (0 : Int) ≤ 0 ∧ (0 : Int) < 16 by decide), (show (0 : Int) ≤ 0 ∧ (0 : Int) < 16 by decide), (show (0 : Int) ≤ 0 ∧ (0 : Int) < 16 by decide)⟩
    · cases h
  · have e : (w / 67108864).toNat = 45 := by omega
    unfold decF at h; rw [e] at h
    simp only [formF] at h
    split at h
    · cases h; exact ⟨(fun _ => rfl), (fun hh => absurd (show 45 = 40 from hh) (by decide)), (show (0 : Int) ≤ 0 ∧ (0 : Int) < 16 by decide), (show (0 : Int) ≤ 0 ∧ (0 : Int) < 16 by decide), (show (0 : Int) ≤ 0 ∧ (0 : Int) < 16 by decide)⟩
    · cases h
  · have e : (w / 67108864).toNat = 46 := by omega
    unfold decF at h; rw [e] at h
    simp only [formF] at h
    split at h
    · cases h; exact ⟨(fun _ => rfl), (fun hh => absurd (show 46 = 40 from hh) (by decide)), (show (0 : Int) ≤ 0 ∧ (0 : Int) < 16 by decide), a1, (show (0 : Int) ≤ 0 ∧ (0 : Int) < 16 by decide)⟩
    · cases h
  · have e : (w / 67108864).toNat = 47 := by omega
    unfold decF at h; rw [e] at h
    simp only [formF] at h
    split at h
    · cases h; exact ⟨(fun _ => rfl), (fun hh => absurd (show 47 = 40 from hh) (by decide)), (show (0 : Int) ≤ 0 ∧ (0 : Int) < 16 by decide), (show (0 : Int) ≤ 0 ∧ (0 : Int) < 16 by decide), (show (0 : Int) ≤ 0 ∧ (0 : Int) < 16 by decide)⟩
    · cases h
  · have e : (w / 67108864).toNat = 48 := by omega
    unfold decF at h; rw [e] at h
    simp only [formF] at h
    split at h
    · cases h; exact ⟨(fun _ => rfl), (fun hh => absurd (show 48 = 40 from hh) (by decide)), (show (0 : Int) ≤ 0 ∧ (0 : Int) < 16 by decide), (show (0 : Int) ≤ 0 ∧ (0 : Int) < 16 by decide), (show (0 : Int) ≤ 0 ∧ (0 : Int) < 16 by decide)⟩
    · cases h
/-- Two runs of one step, of registers that agree on what is read. -/
theorem step_two {w : Int} (h0 : 0 ≤ w) (h1 : w < 4294967296) {i : Ins} (hi : decF w = some i) (R O V : List Int) (hR : R.length = 16) (pc vec back time : Int) (hdl : Bool) (o p : Out)
    (ho : stepF ⟨R, pc, vec, back, false, hdl⟩ ⟨[w], V, [], [], time, -1, false, [], [], [], [], 0, 0, 0, 0⟩ = o)
    (hp : stepF ⟨mixF (readsF i.op i.a i.b) R O 16, pc, vec, back, false, hdl⟩ ⟨[w], V, [], [], time, -1, false, [], [], [], [], 0, 0, 0, 0⟩ = p) :
    Two i.op i.d ⟨R.set 0 0, pc, vec, back, false, hdl⟩ ⟨(mixF (readsF i.op i.a i.b) R O 16).set 0 0, pc, vec, back, false, hdl⟩ o p := by
  have hd := decf_d h0 h1 hi
  have tk : ∀ r : List Int, takes ⟨r, pc, vec, back, false, hdl⟩ ≠ true := fun r => by simp [takes]
  rw [stepF, if_neg (tk _)] at ho hp
  unfold tailF at ho hp
  have e0 : pick1 [w] 0 = w := by simp [pick1, nextV]
  have e1 : pick1 [] 0 = 0 := by simp [pick1]
  simp only [e0, e1, hi] at ho hp
  rw [if_neg (by simp)] at ho hp
  have rgs : ∀ a : Int, 0 ≤ a → a < 16 → (a = i.a ∨ a = i.b) → i.op ≠ 40 → rg (zero0 ⟨R, pc, vec, back, false, hdl⟩) a = rg (zero0 ⟨mixF (readsF i.op i.a i.b) R O 16, pc, vec, back, false, hdl⟩) a := by
    intro a ha0 ha1 hab hop
    unfold rg rgL zero0
    simp only
    by_cases hz : a = 0
    · subst hz
      have l1 : 0 < R.length := by omega
      have l2 : 0 < (mixF (readsF i.op i.a i.b) R O 16).length := by rw [mix_len]; omega
      simp [List.getD_eq_getElem?_getD, l1, l2]
    · have hne : 0 ≠ a.toNat := by omega
      rw [List.getD_eq_getElem?_getD, List.getElem?_set_ne hne, List.getD_eq_getElem?_getD, List.getElem?_set_ne hne, ← List.getD_eq_getElem?_getD, ← List.getD_eq_getElem?_getD]
      refine (mix_keep _ _ _ _ _ fun h => ?_).symm
      rw [show ((a.toNat : Nat) : Int) = a by omega, rbit_reads (by omega) hd.2.2.2.1 hd.2.2.2.2 ⟨by omega, by omega⟩, if_pos hab]
      decide
  have hf : pick1 (fetchS ⟨[w], V, [], [], time, -1, false, [], [], [], [], 0, 0, 0, 0⟩ pc).faults (fetchS ⟨[w], V, [], [], time, -1, false, [], [], [], [], 0, 0, 0, 0⟩ pc).nf = 0 := by
    simp [fetchS, costS, logS, pick1]
  exact exec_two i.op i.d i.a i.b i.imm (zero0 ⟨R, pc, vec, back, false, hdl⟩) (zero0 ⟨mixF (readsF i.op i.a i.b) R O 16, pc, vec, back, false, hdl⟩) (fetchS ⟨[w], V, [], [], time, -1, false, [], [], [], [], 0, 0, 0, 0⟩ pc) 0 rfl rfl rfl rfl rfl (rgs i.a hd.2.2.2.1.1 hd.2.2.2.1.2 (.inl rfl)) (rgs i.b hd.2.2.2.2.1 hd.2.2.2.2.2 (.inr rfl)) hf o p ho hp
theorem setR_at {r : List Int} (hr : r.length = 16) {d v : Int} (hd : 0 ≤ d ∧ d < 16) (j : Nat) (hj : 1 ≤ j ∧ j < 16) : (setR (r.set 0 0) d v).getD j 0 = if (j : Int) = d then v else r.getD j 0 := by
  unfold setR
  rw [List.getD_eq_getElem?_getD, List.getElem?_set_ne (by omega)]
  by_cases e : (j : Int) = d
  · rw [if_pos e, show d.toNat = j by omega, List.getElem?_set_self (by simp; omega)]; rfl
  · rw [if_neg e, List.getElem?_set_ne (by omega), List.getElem?_set_ne (by omega), List.getD_eq_getElem?_getD]
theorem setR_0 {r : List Int} (hr : r.length = 16) (d v : Int) : (setR (r.set 0 0) d v).getD 0 0 = 0 := by
  unfold setR
  rw [List.getD_eq_getElem?_getD, List.getElem?_set_self (by simp; omega)]; rfl
/-- What the law asks of the registers afterwards. -/
theorem two_regs {k : Nat} {d pc vec back : Int} {hdl : Bool} {R S : List Int} {o p : Out} (hR : R.length = 16) (hS : S.length = 16) (h : Two k d ⟨R.set 0 0, pc, vec, back, false, hdl⟩ ⟨S.set 0 0, pc, vec, back, false, hdl⟩ o p)
    (hd : 0 ≤ d ∧ d < 16) (hn : formD k = false → d = 0) (h40 : k = 40 → d = 0) :
    o.regs.r.getD 0 0 = 0 ∧ p.regs.r.getD 0 0 = 0 ∧ ∀ j : Nat, 1 ≤ j ∧ j < 16 → (rbit (if (k : Int) = 40 then 0 else writesF k d) j = 1 → o.regs.r.getD j 0 = p.regs.r.getD j 0) ∧
      (rbit (if (k : Int) = 40 then 0 else writesF k d) j ≠ 1 → o.regs.r.getD j 0 = R.getD j 0 ∧ p.regs.r.getD j 0 = S.getD j 0) := by
  have key : ∀ j : Nat, 1 ≤ j ∧ j < 16 → (rbit (if (k : Int) = 40 then 0 else writesF k d) j = 1 ↔ (j : Int) = d) := by
    intro j hj
    by_cases e : (k : Int) = 40
    · rw [if_pos e, rbit_0, h40 (by omega)]; omega
    · rw [if_neg e, wbit_writes e hd ⟨by omega, by omega⟩]
      split <;> simp_all
  rcases h.r with ⟨f1, f2, f3⟩ | ⟨v, f2, f3⟩
  · have hd0 := hn f1
    have z : ∀ {r : List Int}, r.length = 16 → (r.set 0 0).getD 0 0 = 0 := fun {r} hr => by rw [List.getD_eq_getElem?_getD, List.getElem?_set_self (by omega)]; rfl
    have z2 : ∀ {r : List Int} (j : Nat), 1 ≤ j → (r.set 0 0).getD j 0 = r.getD j 0 := fun {r} j hj => by rw [List.getD_eq_getElem?_getD, List.getElem?_set_ne (by omega), ← List.getD_eq_getElem?_getD]
    rw [f2, f3]
    refine ⟨z hR, z hS, fun j hj => ⟨fun hb => ?_, fun hb => ⟨z2 j hj.1, z2 j hj.1⟩⟩⟩
    have := (key j hj).1 hb
    omega
  · rw [f2, f3]
    refine ⟨setR_0 hR _ _, setR_0 hS _ _, fun j hj => ⟨fun hb => ?_, fun hb => ?_⟩⟩
    · have := (key j hj).1 hb
      simp only
      rw [setR_at hR hd j hj, setR_at hS hd j hj, if_pos this, if_pos this]
    · have : ¬ (j : Int) = d := fun e => hb ((key j hj).2 e)
      simp only
      rw [setR_at hR hd j hj, setR_at hS hd j hj, if_neg this, if_neg this]
      exact ⟨rfl, rfl⟩
end Go.Proofs.YtkljgpepogkgdaaDoor
