/-
  CoreFaults: what a faulted step must be. Plain Lean.
-/
import Derived.Test.YtkljgpepogkgdaaDoorS5
namespace Go.Proofs.YtkljgpepogkgdaaDoor
open Go Go.Vex
def bd4 (w fetch data cycles : Int) : BoardS := ⟨[w], [], [cycles], [fetch, data], 0, -1, false, [], [], [], [], 0, 0, 0, 0⟩
theorem rset0 (r : List Int) : (r.set 0 0).set 0 0 = r.set 0 0 := by simp
/-- A step that is faulted in its doing. -/
structure Flt (s : RegS) (cycles : Int) (fetch data : Int) (o : Out) : Prop where
  regs : o.regs = s
  loaded : o.res.loaded = false
  value : o.res.value = 0
  ne : o.res.flt ≠ 0
  what : (fetch ≠ 0 ∧ o.res.flt = fetch ∧ o.res.addr = s.pc ∧ o.bd.lk.length = 1 ∧ o.bd.la.length = 1 ∧ o.res.cyc = i64 (cycles + 1)) ∨
    (fetch = 0 ∧ o.bd.lk.length = 2 ∧ o.bd.la.length = 2 ∧ o.res.flt = data ∧ o.res.addr = o.bd.la.getD 1 0 ∧ o.res.cyc = i64 (i64 (cycles + 1) + cycles)) ∨
    (fetch = 0 ∧ o.bd.lk.length = 1 ∧ o.bd.la.length = 1 ∧ o.res.flt = 6 ∧ o.res.addr = s.pc ∧ o.res.cyc = i64 (cycles + 1))
theorem exec_flt (k : Nat) (d a b imm : Int) (s : RegS) (bd : BoardS) (cyc : Int) (o : Out) (ho : execF k d a b imm s bd cyc = o) :
    (o.res.kind ≠ 3 ∧ o.res.flt = 0) ∨ (o.res.kind = 3 ∧ o.regs = s ∧ o.res.loaded = false ∧ o.res.value = 0 ∧
      ((o.res.flt = pick1 bd.faults bd.nf ∧ o.res.flt ≠ 0 ∧ o.res.cyc = i64 (i64 (cyc + 1) + pick1 bd.cycles bd.nc) ∧ o.bd.lk.length = bd.lk.length + 1 ∧ o.bd.la = bd.la ++ [o.res.addr]) ∨
       (o.res.flt = 6 ∧ o.res.addr = s.pc ∧ o.res.cyc = i64 (cyc + 1) ∧ o.bd = bd))) := by
  subst ho
  unfold execF
  simp only
  split
  · left; exact ⟨by simp [resOk], rfl⟩
  split
  · left; exact ⟨by simp [resOk], rfl⟩
  split
  · left; exact ⟨by simp [resOk], rfl⟩
  split
  · split
    · left; exact ⟨by simp [resOk], rfl⟩
    · rename_i hf
      right
      refine ⟨rfl, rfl, rfl, rfl, .inl ⟨rfl, hf, rfl, ?_, ?_⟩⟩
      · simp only [loadS, costS, logS]; split <;> simp
      · simp only [loadS, costS, logS, resFault]; split <;> simp
  split
  · split
    · left; exact ⟨by simp [resOk], rfl⟩
    · rename_i hf
      right
      refine ⟨rfl, rfl, rfl, rfl, .inl ⟨rfl, hf, rfl, ?_, ?_⟩⟩
      · simp [storeS, costS, logS]
      · simp [storeS, costS, logS, resFault]
  split
  · left; exact ⟨by simp [resOk], rfl⟩
  split
  all_goals first | (left; exact ⟨by simp [resOk], rfl⟩) | skip
  split
  · left; exact ⟨by simp [resOk], rfl⟩
  · right; exact ⟨rfl, rfl, rfl, rfl, .inr ⟨rfl, rfl, rfl, rfl⟩⟩
theorem faults_pure (w fetch data cycles : Int) (s : RegS) (hs : s.on = false) (h0 : s.r.set 0 0 = s.r) (o : Out) (ho : stepF s (bd4 w fetch data cycles) = o) :
    (o.res.kind ≠ 3 ∧ fetch = 0 ∧ o.res.flt = 0) ∨ (o.res.kind = 3 ∧ Flt s cycles fetch data o) := by
  have hz : zero0 s = s := by unfold zero0; rw [h0]
  have ht : takes s ≠ true := by unfold takes; rw [hs]; simp
  rw [stepF, if_neg ht, hz] at ho
  have e1 : pick1 (bd4 w fetch data cycles).faults (bd4 w fetch data cycles).nf = fetch := by simp [bd4, pick1, nextV]
  have e2 : pick1 (bd4 w fetch data cycles).cycles (bd4 w fetch data cycles).nc = cycles := by simp [bd4, pick1, nextV]
  unfold tailF at ho
  simp only [e1, e2] at ho
  by_cases hf : fetch ≠ 0
  · rw [if_pos hf] at ho
    subst ho
    right
    exact ⟨rfl, rfl, rfl, rfl, hf, .inl ⟨hf, rfl, rfl, by simp [fetchS, bd4, costS, logS], by simp [fetchS, bd4, costS, logS], rfl⟩⟩
  · rw [if_neg hf] at ho
    have hf0 : fetch = 0 := by simpa using hf
    subst hf0
    split at ho
    · subst ho
      right
      exact ⟨rfl, rfl, rfl, rfl, by simp [resFault], .inr (.inr ⟨rfl, by simp [fetchS, bd4, costS, logS], by simp [fetchS, bd4, costS, logS], rfl, rfl, rfl⟩)⟩
    · rename_i i _
      rcases exec_flt _ _ _ _ _ _ _ _ _ ho with ⟨h1, h2⟩ | ⟨h1, h2, h3, h4, h5⟩
      · exact .inl ⟨h1, rfl, h2⟩
      · right
        rcases h5 with ⟨g1, g2, g3, g4, g5⟩ | ⟨g1, g2, g3, g4⟩
        · refine ⟨h1, h2, h3, h4, g2, .inr (.inl ⟨rfl, by rw [g4]; simp [fetchS, bd4, costS, logS], by rw [g5]; simp [fetchS, bd4, costS, logS], ?_, ?_, ?_⟩)⟩
          · rw [g1]; simp [fetchS, bd4, costS, logS, pick1, nextV]
          · rw [g5]; simp [fetchS, bd4, costS, logS]
          · rw [g3]; simp [fetchS, bd4, costS, logS, pick1, nextV]
        · refine ⟨h1, h2, h3, h4, by rw [g1]; decide, .inr (.inr ⟨rfl, by rw [g4]; simp [fetchS, bd4, costS, logS], by rw [g4]; simp [fetchS, bd4, costS, logS], g1, g2, g3⟩)⟩
end Go.Proofs.YtkljgpepogkgdaaDoor
