/-
  CoreGoes: branches and jal. Plain Lean.
-/
import Derived.Test.YtkljgpepogkgdaaDoorS5
set_option linter.unusedVariables false
set_option linter.unusedSimpArgs false
namespace Go.Proofs.YtkljgpepogkgdaaDoor
open Go Go.Vex
theorem tmod_rng (a b : Int) (hb : 0 < b) : -b < a.tmod b ∧ a.tmod b < b := by
  rcases Int.le_total 0 a with h | h
  · rw [Int.tmod_eq_emod_of_nonneg h]
    have := Int.emod_nonneg a (show b ≠ 0 by omega)
    have := Int.emod_lt_of_pos a hb
    omega
  · obtain ⟨c, rfl⟩ : ∃ c, a = -c := ⟨-a, by omega⟩
    rw [Int.neg_tmod, Int.tmod_eq_emod_of_nonneg (by omega)]
    have := Int.emod_nonneg c (show b ≠ 0 by omega)
    have := Int.emod_lt_of_pos c hb
    omega
def oneB (w : Int) : BoardS := ⟨[w], [], [], [], 0, -1, false, [], [], [], [], 0, 0, 0, 0⟩
def oneB' (w pc : Int) : BoardS := ⟨[w], [], [], [], 0, -1, false, [102], [pc], [0], [0], 1, 0, 1, 1⟩
theorem step_one {s : RegS} (hs : s.on = false) (w : Int) {i : Ins} (hd : decF w = some i) : stepF s (oneB w) = execF i.op i.d i.a i.b i.imm (zero0 s) (oneB' w s.pc) 0 := by
  have ht : takes s ≠ true := by unfold takes; rw [hs]; simp
  rw [stepF, if_neg ht]
  unfold tailF
  have e0 : pick1 (oneB w).words (oneB w).nw = w := by simp [oneB, pick1, nextV]
  have e1 : pick1 (oneB w).faults (oneB w).nf = 0 := by simp [oneB, pick1, nextV]
  have e2 : pick1 (oneB w).cycles (oneB w).nc = 0 := by simp [oneB, pick1, nextV]
  have e3 : fetchS (oneB w) (zero0 s).pc = oneB' w s.pc := by simp [oneB, oneB', fetchS, costS, logS, zero0]
  simp only [e0, e1, e2, e3, hd]
  simp
theorem decf_abis {k : Nat} {imm w : Int} (hk : k = 32 ∨ k = 33 ∨ k = 34 ∨ k = 35 ∨ k = 36 ∨ k = 37) (h1 : -100000 ≤ imm) (h2 : imm < 100000) (hw : w = k * 67108864 + 9175040 + imm % 262144) : decF w = some ⟨k, 0, 2, 3, imm⟩ := by
  have e : (w / 67108864).toNat = k := by omega
  have f : formF k = 5 := by rcases hk with rfl | rfl | rfl | rfl | rfl | rfl <;> rfl
  unfold decF
  simp only [e, f]
  have a1 : x22 w = 2 := by unfold x22; omega
  have a2 : x18 w = 3 := by unfold x18; omega
  have a3 : s18 w = imm := by unfold s18; split <;> omega
  rw [a1, a2, a3]
theorem decf_jal {imm w : Int} (h1 : -100000 ≤ imm) (h2 : imm < 100000) (hw : w = 38 * 67108864 + 4194304 + imm % 4194304) : decF w = some ⟨38, 1, 0, 0, imm⟩ := by
  have e : (w / 67108864).toNat = 38 := by omega
  unfold decF
  simp only [e, formF]
  have a1 : x22 w = 1 := by unfold x22; omega
  have a3 : s22 w = imm := by unfold s22; split <;> omega
  rw [a1, a3]
theorem goes_br {s : RegS} (hs : s.on = false) {k : Nat} {imm w : Int} (hk : k = 32 ∨ k = 33 ∨ k = 34 ∨ k = 35 ∨ k = 36 ∨ k = 37) (h1 : -100000 ≤ imm) (h2 : imm < 100000) (hw : w = k * 67108864 + 9175040 + imm % 262144) :
    stepF s (oneB w) = ⟨resOk 0, { zero0 s with pc := if brF k (rgL (s.r.set 0 0) 2) (rgL (s.r.set 0 0) 3) then w32 (s.pc + 4 * imm) else w32 (s.pc + 4) }, oneB' w s.pc⟩ := by
  rw [step_one hs w (decf_abis hk h1 h2 hw)]
  rcases hk with rfl | rfl | rfl | rfl | rfl | rfl <;> rfl
theorem goes_jal {s : RegS} (hs : s.on = false) {imm w : Int} (h1 : -100000 ≤ imm) (h2 : imm < 100000) (hw : w = 38 * 67108864 + 4194304 + imm % 4194304) :
    stepF s (oneB w) = ⟨resOk 0, { zero0 s with r := setR (s.r.set 0 0) 1 (w32 (s.pc + 4)), pc := w32 (s.pc + 4 * imm) }, oneB' w s.pc⟩ := by
  rw [step_one hs w (decf_jal h1 h2 hw)]
  rfl
theorem br_opp {k : Nat} (hk : k = 32 ∨ k = 34 ∨ k = 36) (x y : Int) : brF (k + 1) x y = !brF k x y := by rcases hk with rfl | rfl | rfl <;> rfl
end Go.Proofs.YtkljgpepogkgdaaDoor
