/-
  CoreSteps: what steps keep. Plain Lean.
-/
import Derived.Test.YtkljgpepogkgdaaDoorS5
import Derived.Test.YtkljgpepogkgdaaDoorP8
set_option linter.unusedVariables false
set_option linter.unusedSimpArgs false
namespace Go.Proofs.YtkljgpepogkgdaaDoor
open Go Go.Vex
/-- After n steps on a board. -/
structure BInv (W V Y F : List Int) (n : Nat) (b : BoardS) : Prop where
  w : b.words = W
  v : b.values = V
  y : b.cycles = Y
  f : b.faults = F
  time : 0 ≤ b.time ∧ b.time < 18446744073709551616
  lk : b.lk.length ≤ 3 * n
  nw : 0 ≤ b.nw ∧ b.nw ≤ n
  nv : 0 ≤ b.nv ∧ b.nv ≤ n
  nc : 0 ≤ b.nc ∧ b.nc ≤ 2 * n
  nf : 0 ≤ b.nf ∧ b.nf ≤ 2 * n
theorem setR_ok {s : RegS} (h : RegOk s) {d v : Int} (hv : U32 v) : ∀ z ∈ setR s.r d v, U32 z := by
  intro z hz
  unfold setR at hz
  rcases List.mem_or_eq_of_mem_set hz with hz | hz
  · rcases List.mem_or_eq_of_mem_set hz with hz | hz
    · exact h.all z hz
    · subst hz; exact hv
  · subst hz; exact ⟨by decide, by decide⟩
theorem ext_U {k : Nat} {v : Int} (hv : U32 v) : U32 (extF k v) := by
  unfold extF
  split
  · exact w32_ok _
  · unfold U32; omega
  · exact w32_ok _
  · unfold U32; omega
  · exact hv
theorem exec_reg (k : Nat) (d a b imm : Int) (s : RegS) (bd : BoardS) (cyc : Int) (h : RegOk s) (hv : ∀ z ∈ bd.values, U32 z) : RegOk (execF k d a b imm s bd cyc).regs := by
  have hp : U32 (w32 (s.pc + 4)) := w32_ok _
  have hpk : U32 (pick1 bd.values bd.nv) := by
    unfold pick1
    rw [List.getD_eq_getElem?_getD]
    cases e : bd.values[(nextV bd.nv bd.values.length).toNat]? with
    | none => exact ⟨by decide, by decide⟩
    | some z => exact hv z (List.mem_of_getElem? e)
  have key : ∀ (v pc : Int), U32 v → U32 pc → RegOk { s with r := setR s.r d v, pc := pc } := fun v pc h1 h2 => ⟨by simp [setR, h.len], setR_ok h h1, h2, h.vec, h.back⟩
  unfold execF
  simp only
  split
  · exact key _ _ (sum_U (rg_ok h _) (rg_ok h _)) hp
  split
  · exact key _ _ (sum_U (rg_ok h _) (w32_ok _)) hp
  split
  · exact key _ _ (w32_ok _) hp
  split
  · split
    · exact key _ _ (ext_U hpk) hp
    · exact h
  split
  · split
    · exact ⟨h.len, h.all, hp, h.vec, h.back⟩
    · exact h
  split
  · exact ⟨h.len, h.all, by simp only; split <;> exact w32_ok _, h.vec, h.back⟩
  split
  · exact key _ _ hp (w32_ok _)
  · exact key _ _ hp (w32_ok _)
  · exact ⟨h.len, h.all, hp, h.vec, h.back⟩
  · exact key _ _ (w32_ok _) hp
  · exact ⟨h.len, h.all, hp, h.vec, h.back⟩
  · exact ⟨h.len, h.all, hp, h.vec, h.back⟩
  · exact ⟨h.len, h.all, hp, h.vec, h.back⟩
  · split
    · exact ⟨h.len, h.all, h.back, h.vec, h.back⟩
    · exact h
  · exact ⟨h.len, h.all, hp, rg_ok h _, h.back⟩
  · exact h
  · exact ⟨h.len, h.all, hp, h.vec, h.back⟩
theorem tail_reg (s : RegS) (bd : BoardS) (h : RegOk s) (hv : ∀ z ∈ bd.values, U32 z) : RegOk (tailF s bd).regs := by
  unfold tailF
  simp only
  split
  · exact h
  split
  · exact h
  · refine exec_reg _ _ _ _ _ _ _ _ h ?_
    simp only [fetchS, costS, logS]; split <;> exact hv
theorem step_reg (s : RegS) (bd : BoardS) (h : RegOk s) (hv : ∀ z ∈ bd.values, U32 z) : RegOk (stepF s bd).regs := by
  unfold stepF
  split
  · split
    · refine ⟨by simp [h.len], ?_, h.vec, h.vec, h.pc⟩
      intro z hz
      rcases List.mem_or_eq_of_mem_set hz with hz | hz
      · exact (zero0_ok h).all z hz
      · subst hz; exact w32_ok _
    · refine tail_reg _ _ (zero0_ok h) ?_
      simp only [irqS, logS]; split <;> exact hv
  · exact tail_reg _ _ (zero0_ok h) hv
/-- What one call may add to a board. -/
structure BMid (W V Y F : List Int) (xl xw xv xc : Nat) (b : BoardS) : Prop where
  w : b.words = W
  v : b.values = V
  y : b.cycles = Y
  f : b.faults = F
  time : 0 ≤ b.time ∧ b.time < 18446744073709551616
  lk : b.lk.length ≤ xl
  nw : 0 ≤ b.nw ∧ b.nw ≤ xw
  nv : 0 ≤ b.nv ∧ b.nv ≤ xv
  nc : 0 ≤ b.nc ∧ b.nc ≤ xc
  nf : 0 ≤ b.nf ∧ b.nf ≤ xc
theorem exec_mid {W V Y F : List Int} {l nw nv nc : Nat} (k : Nat) (d a b imm : Int) (s : RegS) (bd : BoardS) (cyc : Int) (h : BMid W V Y F l nw nv nc bd) : BMid W V Y F (l + 1) nw (nv + 1) (nc + 1) (execF k d a b imm s bd cyc).bd := by
  obtain ⟨h1, h2, h3, h4, h5, h6, h7, h8, h9, h10⟩ := h
  have same : BMid W V Y F (l + 1) nw (nv + 1) (nc + 1) bd := ⟨h1, h2, h3, h4, h5, by omega, h7, by omega, by omega, by omega⟩
  unfold execF
  simp only
  split
  · exact same
  split
  · exact same
  split
  · exact same
  have hl : ∀ x y, BMid W V Y F (l + 1) nw (nv + 1) (nc + 1) (loadS bd x y) := by
    intro x y
    simp only [loadS, costS, logS]
    split
    · exact ⟨h1, h2, h3, h4, h5, by simp; omega, h7, by simp only; omega, by simp only; omega, by simp only; omega⟩
    · exact ⟨h1, h2, h3, h4, h5, by simp; omega, h7, by simp only; omega, by simp only; omega, by simp only; omega⟩
  have hs : ∀ x y z, BMid W V Y F (l + 1) nw (nv + 1) (nc + 1) (storeS bd x y z) := by
    intro x y z
    simp only [storeS, costS, logS]
    exact ⟨h1, h2, h3, h4, h5, by simp; omega, h7, by simp only; omega, by simp only; omega, by simp only; omega⟩
  split
  · split <;> exact hl _ _
  split
  · split <;> exact hs _ _ _
  split
  · exact same
  split
  · exact same
  · exact same
  · exact same
  · simp only [clockS, logS]
    exact ⟨h1, h2, h3, h4, by simp only [wrap_u64]; omega, by simp; omega, h7, by simp only; omega, by simp only; omega, by simp only; omega⟩
  · exact same
  · exact same
  · exact same
  · split <;> exact same
  · exact same
  · exact same
  · exact same
theorem fetch_mid {W V Y F : List Int} {l nw nv nc : Nat} (bd : BoardS) (pc : Int) (h : BMid W V Y F l nw nv nc bd) : BMid W V Y F (l + 1) (nw + 1) nv (nc + 1) (fetchS bd pc) := by
  obtain ⟨h1, h2, h3, h4, h5, h6, h7, h8, h9, h10⟩ := h
  simp only [fetchS, costS, logS]
  split
  · exact ⟨h1, h2, h3, h4, h5, by simp; omega, by simp only; omega, h8, by simp only; omega, by simp only; omega⟩
  · exact ⟨h1, h2, h3, h4, h5, by simp; omega, by simp only; omega, h8, by simp only; omega, by simp only; omega⟩
theorem irq_mid {W V Y F : List Int} {l nw nv nc : Nat} (bd : BoardS) (h : BMid W V Y F l nw nv nc bd) : BMid W V Y F (l + 1) nw nv nc (irqS bd) := by
  obtain ⟨h1, h2, h3, h4, h5, h6, h7, h8, h9, h10⟩ := h
  simp only [irqS, logS]
  split
  · exact ⟨h1, h2, h3, h4, h5, by simp; omega, h7, h8, h9, h10⟩
  · exact ⟨h1, h2, h3, h4, h5, by simp; omega, h7, h8, h9, h10⟩
theorem BMid.le {W V Y F : List Int} {l nw nv nc l' nw' nv' nc' : Nat} {b : BoardS} (h : BMid W V Y F l nw nv nc b) (a1 : l ≤ l') (a2 : nw ≤ nw') (a3 : nv ≤ nv') (a4 : nc ≤ nc') : BMid W V Y F l' nw' nv' nc' b := by
  obtain ⟨h1, h2, h3, h4, h5, h6, h7, h8, h9, h10⟩ := h
  exact ⟨h1, h2, h3, h4, h5, by omega, by omega, by omega, by omega, by omega⟩
theorem tail_mid {W V Y F : List Int} {l nw nv nc : Nat} (s : RegS) (bd : BoardS) (h : BMid W V Y F l nw nv nc bd) : BMid W V Y F (l + 2) (nw + 1) (nv + 1) (nc + 2) (tailF s bd).bd := by
  have h1 := fetch_mid bd s.pc h
  unfold tailF
  simp only
  split
  · exact h1.le (by omega) (by omega) (by omega) (by omega)
  split
  · exact h1.le (by omega) (by omega) (by omega) (by omega)
  · exact exec_mid _ _ _ _ _ _ _ _ h1
theorem step_inv {W V Y F : List Int} {n : Nat} (s : RegS) (bd : BoardS) (h : BInv W V Y F n bd) : BInv W V Y F (n + 1) (stepF s bd).bd := by
  obtain ⟨h1, h2, h3, h4, h5, h6, h7, h8, h9, h10⟩ := h
  have h0 : BMid W V Y F (3 * n) n n (2 * n) bd := ⟨h1, h2, h3, h4, h5, h6, h7, h8, by omega, by omega⟩
  have hm : BMid W V Y F (3 * n + 3) (n + 1) (n + 1) (2 * n + 2) (stepF s bd).bd := by
    unfold stepF
    split
    · split
      · exact (irq_mid bd h0).le (by omega) (by omega) (by omega) (by omega)
      · exact tail_mid _ _ (irq_mid bd h0)
    · exact (tail_mid _ _ h0).le (by omega) (by omega) (by omega) (by omega)
  obtain ⟨g1, g2, g3, g4, g5, g6, g7, g8, g9, g10⟩ := hm
  exact ⟨g1, g2, g3, g4, g5, by omega, by omega, by omega, by omega, by omega⟩
theorem BInv.okW {W V Y F : List Int} {n : Nat} {b : BoardS} (h : BInv W V Y F n b) (hn : n < 1000) (hW : ∀ z ∈ W, U32 z) (hV : ∀ z ∈ V, U32 z) (h1 : W.length < 4611686018427387904) (h2 : V.length < 4611686018427387904) (h3 : Y.length < 4611686018427387904) (h4 : F.length < 4611686018427387904) : BdOkW b := by
  obtain ⟨rfl, rfl, rfl, rfl, g5, g6, g7, g8, g9, g10⟩ := h
  exact ⟨⟨h1, h2, h3, h4, by omega, by omega, by omega, by omega⟩, by omega, g5, hV, hW, by omega⟩
end Go.Proofs.YtkljgpepogkgdaaDoor
