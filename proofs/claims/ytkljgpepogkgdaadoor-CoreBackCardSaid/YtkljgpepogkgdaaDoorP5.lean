/-
  CoreBack: an interrupt, and back. Plain Lean.
-/
import Derived.Test.YtkljgpepogkgdaaDoorS5
set_option linter.unusedVariables false
set_option linter.unusedSimpArgs false
namespace Go.Proofs.YtkljgpepogkgdaaDoor
open Go Go.Vex
theorem exec_line (k : Nat) (d a b imm : Int) (s : RegS) (bd : BoardS) (cyc : Int) : (execF k d a b imm s bd cyc).res.kind ≠ 6 ∧ (execF k d a b imm s bd cyc).bd.line = bd.line := by
  unfold execF
  simp only
  split
  · exact ⟨by simp [resOk], rfl⟩
  split
  · exact ⟨by simp [resOk], rfl⟩
  split
  · exact ⟨by simp [resOk], rfl⟩
  split
  · split
    · exact ⟨by simp [resOk], by simp only [loadS, costS, logS]; split <;> rfl⟩
    · exact ⟨by simp [resFault], by simp only [loadS, costS, logS]; split <;> rfl⟩
  split
  · split
    · exact ⟨by simp [resOk], rfl⟩
    · exact ⟨by simp [resFault], rfl⟩
  split
  · exact ⟨by simp [resOk], rfl⟩
  split
  all_goals first | exact ⟨by simp [resOk], rfl⟩ | skip
  split
  · exact ⟨by simp [resOk], rfl⟩
  · exact ⟨by simp [resFault], rfl⟩
theorem fetch_line (bd : BoardS) (pc : Int) : (fetchS bd pc).line = bd.line := by simp only [fetchS, costS, logS]; split <;> rfl
theorem noirq {s : RegS} (hs : takes s ≠ true) (bd : BoardS) : (stepF s bd).res.kind ≠ 6 ∧ (stepF s bd).bd.line = bd.line := by
  rw [stepF, if_neg hs]
  unfold tailF
  simp only
  split
  · exact ⟨by simp [resFault], fetch_line _ _⟩
  · split
    · exact ⟨by simp [resFault], fetch_line _ _⟩
    · have := exec_line ‹Ins›.op ‹Ins›.d ‹Ins›.a ‹Ins›.b ‹Ins›.imm (zero0 s) (fetchS bd (zero0 s).pc) (pick1 bd.cycles bd.nc)
      exact ⟨this.1, this.2.trans (fetch_line _ _)⟩
theorem back_a (R : List Int) (pc vec back w n : Int) (hn : 0 ≤ n) : stepF ⟨R, pc, vec, back, true, false⟩ ⟨[3019898880, w], [], [], [], 0, n, false, [], [], [], [], 0, 0, 0, 0⟩ =
    ⟨⟨6, 4, 0, 0, 0, n, false, 0, false, 0⟩, ⟨(R.set 0 0).set 14 (w32 n), vec, vec, pc, true, true⟩, ⟨[3019898880, w], [], [], [], 0, -1, false, [105], [0], [0], [0], 0, 0, 0, 0⟩⟩ := by
  have h : ¬ (n < 0 ∧ (false : Bool) = false) := by omega
  have hr : irqR ⟨[3019898880, w], [], [], [], 0, n, false, [], [], [], [], 0, 0, 0, 0⟩ = (n, true) := by exact if_neg h
  have hs : irqS ⟨[3019898880, w], [], [], [], 0, n, false, [], [], [], [], 0, 0, 0, 0⟩ = ⟨[3019898880, w], [], [], [], 0, -1, false, [105], [0], [0], [0], 0, 0, 0, 0⟩ := by
    exact if_neg h
  have ht : takes ⟨R, pc, vec, back, true, false⟩ = true := rfl
  rw [stepF, if_pos ht, hr, hs]
  rfl
theorem back_b (r : List Int) (pc vec w : Int) : stepF ⟨r, vec, vec, pc, true, true⟩ ⟨[3019898880, w], [], [], [], 0, 7, false, [105], [0], [0], [0], 0, 0, 0, 0⟩ =
    ⟨⟨1, 1, 0, 0, 0, 0, false, 0, false, 0⟩, ⟨r.set 0 0, pc, vec, pc, true, false⟩, ⟨[3019898880, w], [], [], [], 0, 7, false, [105, 102], [0, vec], [0, 0], [0, 0], 1, 0, 1, 1⟩⟩ := by
  rfl
end Go.Proofs.YtkljgpepogkgdaaDoor
