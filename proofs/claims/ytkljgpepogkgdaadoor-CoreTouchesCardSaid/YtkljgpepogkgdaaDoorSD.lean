import Derived.Test.YtkljgpepogkgdaaDoorSQ
set_option linter.unusedVariables false
set_option linter.unusedSimpArgs false
namespace Go.Proofs.YtkljgpepogkgdaaDoor
open Go Go.Vex
set_option maxRecDepth 20000
set_option maxHeartbeats 4000000
theorem tail_38 (r : List Int) (pc vec back : Int) (on hdl : Bool) (bd : BoardS) (F) (w cyc d a b imm : Int) (hs : RegOk ⟨r, pc, vec, back, on, hdl⟩) (hbd : BdOk bd) (hd : 0 ≤ d ∧ d < 16) (ha : 0 ≤ a ∧ a < 16) (hb : 0 ≤ b ∧ b < 16) (hdec : DecIs w 38 d a b imm)
    (r' : List Int) (pc' : Int) (cyc' : Int) (hr' : r' = setR r d (w32 (pc + 4))) (hpc' : pc' = w32 (pc + 4 * imm)) (hcyc' : cyc' = i64 (cyc + 1)) : TailOk ⟨r, pc, vec, back, on, hdl⟩ bd F w cyc (.lit 0) ⟨1, cyc', 0, 0, 0, 0, false, 0, false, 0⟩ ⟨r', pc', vec, back, on, hdl⟩ bd := by
  have hx : U32 (rgL r a) := rg_ok hs a
  have hy : U32 (rgL r b) := rg_ok hs b
  have hi : U32 (w32 imm) := w32_ok imm
  refine kcode I11ok 6 ⟨[], 0⟩ tail11_chk ?_
  conv => cbv
  refine OkCall.by_spec hdec [2] (by decide) (by cbv) (by cbv) ?_
  conv => cbv
  repeat (first | refine And.intro (inR.mk (by omega) (by omega)) ?_ | refine And.intro (nLt.mk (by simp only [leafs]; omega)) ?_)
  conv => cbv
  refine (LeOut.mk' [0, 1, 2, 3] (by decide) rfl id ?_ ?_).two
  · conv => cbv
    exact ⟨by rw [hcyc']; show _ = addI .i64 cyc 1; rw [addI_eq]; rfl, trivial⟩
  · conv => cbv
    refine ⟨⟨?_, by rw [hpc']; exact (brTo pc imm).symm, trivial⟩, trivial⟩
    show r' = setI (setI r (toN d) (addI .u32 pc 4)) 0 0
    rw [setI2, pc4]
    exact hr'

theorem tail_39 (r : List Int) (pc vec back : Int) (on hdl : Bool) (bd : BoardS) (F) (w cyc d a b imm : Int) (hs : RegOk ⟨r, pc, vec, back, on, hdl⟩) (hbd : BdOk bd) (hd : 0 ≤ d ∧ d < 16) (ha : 0 ≤ a ∧ a < 16) (hb : 0 ≤ b ∧ b < 16) (hdec : DecIs w 39 d a b imm)
    (r' : List Int) (pc' : Int) (cyc' : Int) (hr' : r' = setR r d (w32 (pc + 4))) (hpc' : pc' = w32 (rgL r a + imm)) (hcyc' : cyc' = i64 (cyc + 1)) : TailOk ⟨r, pc, vec, back, on, hdl⟩ bd F w cyc (.lit 0) ⟨1, cyc', 0, 0, 0, 0, false, 0, false, 0⟩ ⟨r', pc', vec, back, on, hdl⟩ bd := by
  have hx : U32 (rgL r a) := rg_ok hs a
  have hy : U32 (rgL r b) := rg_ok hs b
  have hi : U32 (w32 imm) := w32_ok imm
  refine kcode I11ok 6 ⟨[], 0⟩ tail11_chk ?_
  conv => cbv
  refine OkCall.by_spec hdec [2] (by decide) (by cbv) (by cbv) ?_
  conv => cbv
  obtain ⟨xa, hxa⟩ : ∃ x, x = rgL r a := ⟨_, rfl⟩
  refine QCall.of_call (.i .u32 (.ex xa)) rfl (into I11ok 6 ?_) ?_
  · conv => cbv
    refine ⟨inR.mk (by omega) (by omega), nLt.mk (by simp only [leafs]; omega), ?_⟩
    show xa = gi r (toN a)
    rw [hxa, giR]
  conv => cbv
  repeat (first | refine And.intro (inR.mk (by omega) (by omega)) ?_ | refine And.intro (nLt.mk (by simp only [leafs]; omega)) ?_)
  conv => cbv
  refine (LeOut.mk' [0, 1, 2, 3] (by decide) rfl id ?_ ?_).two
  · conv => cbv
    exact ⟨by rw [hcyc']; show _ = addI .i64 cyc 1; rw [addI_eq]; rfl, trivial⟩
  · conv => cbv
    refine ⟨⟨?_, by rw [hpc', ← hxa]; exact (adr xa imm).symm, trivial⟩, trivial⟩
    show r' = setI (setI r (toN d) (addI .u32 pc 4)) 0 0
    rw [setI2, pc4]
    exact hr'

theorem tail_40 (r : List Int) (pc vec back : Int) (on hdl : Bool) (bd : BoardS) (F) (w cyc d a b imm : Int) (hs : RegOk ⟨r, pc, vec, back, on, hdl⟩) (hbd : BdOk bd) (hd : 0 ≤ d ∧ d < 16) (ha : 0 ≤ a ∧ a < 16) (hb : 0 ≤ b ∧ b < 16) (hi0 : U32 imm) (hdec : DecIs w 40 d a b imm)
    (pc' : Int) (cyc' : Int) (hpc' : pc' = w32 (pc + 4)) (hcyc' : cyc' = i64 (cyc + 1)) : TailOk ⟨r, pc, vec, back, on, hdl⟩ bd F w cyc (.lit 0) ⟨2, cyc', imm, 0, 0, 0, false, 0, false, 0⟩ ⟨r, pc', vec, back, on, hdl⟩ bd := by
  have hx : U32 (rgL r a) := rg_ok hs a
  have hy : U32 (rgL r b) := rg_ok hs b
  have hi : U32 (w32 imm) := w32_ok imm
  refine kcode I11ok 6 ⟨[], 0⟩ tail11_chk ?_
  conv => cbv
  refine OkCall.by_spec hdec [2] (by decide) (by cbv) (by cbv) ?_
  conv => cbv
  repeat (first | refine And.intro (inR.mk (by omega) (by omega)) ?_ | refine And.intro (nLt.mk (by simp only [leafs]; omega)) ?_)
  conv => cbv
  refine (LeOut.mk' [0, 1, 2, 3] (by decide) rfl id ?_ ?_).two
  · conv => cbv
    exact ⟨by rw [hcyc']; show _ = addI .i64 cyc 1; rw [addI_eq]; rfl, by show imm = convI .u32 imm; rw [conv_imm]; unfold w32; have := hi0.1; have := hi0.2; omega, trivial⟩
  · conv => cbv
    exact ⟨⟨by rw [hpc']; exact (pc4 pc).symm, trivial⟩, trivial⟩

theorem tail_41 (r : List Int) (pc vec back : Int) (on hdl : Bool) (bd : BoardS) (F) (w cyc d a b imm : Int) (hs : RegOk ⟨r, pc, vec, back, on, hdl⟩) (hbd : BdOk bd) (hd : 0 ≤ d ∧ d < 16) (ha : 0 ≤ a ∧ a < 16) (hb : 0 ≤ b ∧ b < 16) (hdec : DecIs w 41 d a b imm)
    (r' : List Int) (pc' : Int) (cyc' : Int) (t' : Int) (bd' : BoardS) (hr' : r' = setR r d (w32 bd.time)) (hpc' : pc' = w32 (pc + 4)) (hcyc' : cyc' = i64 (cyc + 1)) (ht' : t' = bd.time) (hbd' : bd' = clockS bd) : TailOk ⟨r, pc, vec, back, on, hdl⟩ bd F w cyc (.lit 0) ⟨1, cyc', 0, 0, 0, 0, false, 0, true, t'⟩ ⟨r', pc', vec, back, on, hdl⟩ bd' := by
  have hx : U32 (rgL r a) := rg_ok hs a
  have hy : U32 (rgL r b) := rg_ok hs b
  have hi : U32 (w32 imm) := w32_ok imm
  refine kcode I11ok 6 ⟨[], 0⟩ tail11_chk ?_
  conv => cbv
  refine OkCall.by_spec hdec [2] (by decide) (by cbv) (by cbv) ?_
  conv => cbv
  have hsp := clock_spec bd hbd.bnd hbd.log hbd.time
  rw [← hbd', ← ht'] at hsp
  refine OkCall.by_spec hsp [1] (by decide) (by cbv) (by cbv) ?_
  conv => cbv
  repeat (first | refine And.intro (inR.mk (by omega) (by omega)) ?_ | refine And.intro (nLt.mk (by simp only [leafs]; omega)) ?_)
  conv => cbv
  refine (LeOut.mk' [0, 1, 2, 3] (by decide) rfl id ?_ ?_).two
  · conv => cbv
    exact ⟨by rw [hcyc']; show _ = addI .i64 cyc 1; rw [addI_eq]; rfl, trivial⟩
  · conv => cbv
    refine ⟨⟨?_, by rw [hpc']; exact (pc4 pc).symm, trivial⟩, trivial⟩
    show r' = setI (setI r (toN d) (convI .u32 t')) 0 0
    rw [setI2, conv_imm, ht']
    exact hr'

theorem tail_42 (r : List Int) (pc vec back : Int) (on hdl : Bool) (bd : BoardS) (F) (w cyc d a b imm : Int) (hs : RegOk ⟨r, pc, vec, back, on, hdl⟩) (hbd : BdOk bd) (hd : 0 ≤ d ∧ d < 16) (ha : 0 ≤ a ∧ a < 16) (hb : 0 ≤ b ∧ b < 16) (hdec : DecIs w 42 d a b imm)
    (pc' : Int) (cyc' : Int) (hpc' : pc' = w32 (pc + 4)) (hcyc' : cyc' = i64 (cyc + 1)) : TailOk ⟨r, pc, vec, back, on, hdl⟩ bd F w cyc (.lit 0) ⟨5, cyc', 0, 0, 0, 0, false, 0, false, 0⟩ ⟨r, pc', vec, back, on, hdl⟩ bd := by
  have hx : U32 (rgL r a) := rg_ok hs a
  have hy : U32 (rgL r b) := rg_ok hs b
  have hi : U32 (w32 imm) := w32_ok imm
  refine kcode I11ok 6 ⟨[], 0⟩ tail11_chk ?_
  conv => cbv
  refine OkCall.by_spec hdec [2] (by decide) (by cbv) (by cbv) ?_
  conv => cbv
  repeat (first | refine And.intro (inR.mk (by omega) (by omega)) ?_ | refine And.intro (nLt.mk (by simp only [leafs]; omega)) ?_)
  conv => cbv
  refine (LeOut.mk' [0, 1, 2, 3] (by decide) rfl id ?_ ?_).two
  · conv => cbv
    exact ⟨by rw [hcyc']; show _ = addI .i64 cyc 1; rw [addI_eq]; rfl, trivial⟩
  · conv => cbv
    exact ⟨⟨by rw [hpc']; exact (pc4 pc).symm, trivial⟩, trivial⟩

theorem tail_43 (r : List Int) (pc vec back : Int) (on hdl : Bool) (bd : BoardS) (F) (w cyc d a b imm : Int) (hs : RegOk ⟨r, pc, vec, back, on, hdl⟩) (hbd : BdOk bd) (hd : 0 ≤ d ∧ d < 16) (ha : 0 ≤ a ∧ a < 16) (hb : 0 ≤ b ∧ b < 16) (hdec : DecIs w 43 d a b imm)
    (pc' : Int) (cyc' : Int) (hpc' : pc' = w32 (pc + 4)) (hcyc' : cyc' = i64 (cyc + 1)) : TailOk ⟨r, pc, vec, back, on, hdl⟩ bd F w cyc (.lit 0) ⟨1, cyc', 0, 0, 0, 0, false, 0, false, 0⟩ ⟨r, pc', vec, back, true, hdl⟩ bd := by
  have hx : U32 (rgL r a) := rg_ok hs a
  have hy : U32 (rgL r b) := rg_ok hs b
  have hi : U32 (w32 imm) := w32_ok imm
  refine kcode I11ok 6 ⟨[], 0⟩ tail11_chk ?_
  conv => cbv
  refine OkCall.by_spec hdec [2] (by decide) (by cbv) (by cbv) ?_
  conv => cbv
  repeat (first | refine And.intro (inR.mk (by omega) (by omega)) ?_ | refine And.intro (nLt.mk (by simp only [leafs]; omega)) ?_)
  conv => cbv
  refine (LeOut.mk' [0, 1, 2, 3] (by decide) rfl id ?_ ?_).two
  · conv => cbv
    exact ⟨by rw [hcyc']; show _ = addI .i64 cyc 1; rw [addI_eq]; rfl, trivial⟩
  · conv => cbv
    exact ⟨⟨by rw [hpc']; exact (pc4 pc).symm, trivial⟩, trivial⟩

theorem tail_44 (r : List Int) (pc vec back : Int) (on hdl : Bool) (bd : BoardS) (F) (w cyc d a b imm : Int) (hs : RegOk ⟨r, pc, vec, back, on, hdl⟩) (hbd : BdOk bd) (hd : 0 ≤ d ∧ d < 16) (ha : 0 ≤ a ∧ a < 16) (hb : 0 ≤ b ∧ b < 16) (hdec : DecIs w 44 d a b imm)
    (pc' : Int) (cyc' : Int) (hpc' : pc' = w32 (pc + 4)) (hcyc' : cyc' = i64 (cyc + 1)) : TailOk ⟨r, pc, vec, back, on, hdl⟩ bd F w cyc (.lit 0) ⟨1, cyc', 0, 0, 0, 0, false, 0, false, 0⟩ ⟨r, pc', vec, back, false, hdl⟩ bd := by
  have hx : U32 (rgL r a) := rg_ok hs a
  have hy : U32 (rgL r b) := rg_ok hs b
  have hi : U32 (w32 imm) := w32_ok imm
  refine kcode I11ok 6 ⟨[], 0⟩ tail11_chk ?_
  conv => cbv
  refine OkCall.by_spec hdec [2] (by decide) (by cbv) (by cbv) ?_
  conv => cbv
  repeat (first | refine And.intro (inR.mk (by omega) (by omega)) ?_ | refine And.intro (nLt.mk (by simp only [leafs]; omega)) ?_)
  conv => cbv
  refine (LeOut.mk' [0, 1, 2, 3] (by decide) rfl id ?_ ?_).two
  · conv => cbv
    exact ⟨by rw [hcyc']; show _ = addI .i64 cyc 1; rw [addI_eq]; rfl, trivial⟩
  · conv => cbv
    exact ⟨⟨by rw [hpc']; exact (pc4 pc).symm, trivial⟩, trivial⟩

theorem tail_45 (r : List Int) (pc vec back : Int) (on hdl : Bool) (bd : BoardS) (F) (w cyc d a b imm : Int) (hs : RegOk ⟨r, pc, vec, back, on, hdl⟩) (hbd : BdOk bd) (hd : 0 ≤ d ∧ d < 16) (ha : 0 ≤ a ∧ a < 16) (hb : 0 ≤ b ∧ b < 16) (hh : hdl = true) (hdec : DecIs w 45 d a b imm)
    (cyc' : Int) (hcyc' : cyc' = i64 (cyc + 1)) : TailOk ⟨r, pc, vec, back, on, hdl⟩ bd F w cyc (.lit 0) ⟨1, cyc', 0, 0, 0, 0, false, 0, false, 0⟩ ⟨r, back, vec, back, on, false⟩ bd := by
  have hx : U32 (rgL r a) := rg_ok hs a
  have hy : U32 (rgL r b) := rg_ok hs b
  have hi : U32 (w32 imm) := w32_ok imm
  refine kcode I11ok 6 ⟨[], 0⟩ tail11_chk ?_
  conv => cbv
  refine OkCall.by_spec hdec [2] (by decide) (by cbv) (by cbv) ?_
  conv => cbv
  refine Br.no (by simp only [leafs]; rw [hh]; rfl) ?_
  conv => cbv
  repeat (first | refine And.intro (inR.mk (by omega) (by omega)) ?_ | refine And.intro (nLt.mk (by simp only [leafs]; omega)) ?_)
  conv => cbv
  refine (LeOut.mk' [0, 1, 2, 3] (by decide) rfl id ?_ ?_).two
  · conv => cbv
    exact ⟨by rw [hcyc']; show _ = addI .i64 cyc 1; rw [addI_eq]; rfl, trivial⟩
  · conv => cbv
    trivial
theorem tail_45n (r : List Int) (pc vec back : Int) (on hdl : Bool) (bd : BoardS) (F) (w cyc d a b imm : Int) (hs : RegOk ⟨r, pc, vec, back, on, hdl⟩) (hbd : BdOk bd) (hd : 0 ≤ d ∧ d < 16) (ha : 0 ≤ a ∧ a < 16) (hb : 0 ≤ b ∧ b < 16) (hh : hdl = false) (hdec : DecIs w 45 d a b imm)
    (cyc' : Int) (hcyc' : cyc' = i64 (cyc + 1)) : TailOk ⟨r, pc, vec, back, on, hdl⟩ bd F w cyc (.lit 0) ⟨3, cyc', 0, 6, pc, 0, false, 0, false, 0⟩ ⟨r, pc, vec, back, on, hdl⟩ bd := by
  have hx : U32 (rgL r a) := rg_ok hs a
  have hy : U32 (rgL r b) := rg_ok hs b
  have hi : U32 (w32 imm) := w32_ok imm
  refine kcode I11ok 6 ⟨[], 0⟩ tail11_chk ?_
  conv => cbv
  refine OkCall.by_spec hdec [2] (by decide) (by cbv) (by cbv) ?_
  conv => cbv
  refine Br.yes (by simp only [leafs]; rw [hh]; rfl) ?_
  conv => cbv
  repeat (first | refine And.intro (inR.mk (by omega) (by omega)) ?_ | refine And.intro (nLt.mk (by simp only [leafs]; omega)) ?_)
  conv => cbv
  refine (LeOut.mk' [0, 1, 2, 3] (by decide) rfl id ?_ ?_).two
  · conv => cbv
    exact ⟨by rw [hcyc']; show _ = addI .i64 cyc 1; rw [addI_eq]; rfl, (pcback hs.pc).symm, trivial⟩
  · conv => cbv
    exact ⟨⟨(pcback hs.pc).symm, trivial⟩, trivial⟩

theorem tail_46 (r : List Int) (pc vec back : Int) (on hdl : Bool) (bd : BoardS) (F) (w cyc d a b imm : Int) (hs : RegOk ⟨r, pc, vec, back, on, hdl⟩) (hbd : BdOk bd) (hd : 0 ≤ d ∧ d < 16) (ha : 0 ≤ a ∧ a < 16) (hb : 0 ≤ b ∧ b < 16) (hdec : DecIs w 46 d a b imm)
    (pc' : Int) (cyc' : Int) (vec' : Int) (hpc' : pc' = w32 (pc + 4)) (hcyc' : cyc' = i64 (cyc + 1)) (hvec' : vec' = rgL r a) : TailOk ⟨r, pc, vec, back, on, hdl⟩ bd F w cyc (.lit 0) ⟨1, cyc', 0, 0, 0, 0, false, 0, false, 0⟩ ⟨r, pc', vec', back, on, hdl⟩ bd := by
  have hx : U32 (rgL r a) := rg_ok hs a
  have hy : U32 (rgL r b) := rg_ok hs b
  have hi : U32 (w32 imm) := w32_ok imm
  refine kcode I11ok 6 ⟨[], 0⟩ tail11_chk ?_
  conv => cbv
  refine OkCall.by_spec hdec [2] (by decide) (by cbv) (by cbv) ?_
  conv => cbv
  obtain ⟨xa, hxa⟩ : ∃ x, x = rgL r a := ⟨_, rfl⟩
  refine QCall.of_call (.i .u32 (.ex xa)) rfl (into I11ok 6 ?_) ?_
  · conv => cbv
    refine ⟨inR.mk (by omega) (by omega), nLt.mk (by simp only [leafs]; omega), ?_⟩
    show xa = gi r (toN a)
    rw [hxa, giR]
  conv => cbv
  repeat (first | refine And.intro (inR.mk (by omega) (by omega)) ?_ | refine And.intro (nLt.mk (by simp only [leafs]; omega)) ?_)
  conv => cbv
  refine (LeOut.mk' [0, 1, 2, 3] (by decide) rfl id ?_ ?_).two
  · conv => cbv
    exact ⟨by rw [hcyc']; show _ = addI .i64 cyc 1; rw [addI_eq]; rfl, trivial⟩
  · conv => cbv
    exact ⟨⟨by rw [hpc']; exact (pc4 pc).symm, hvec'.trans hxa.symm, trivial⟩, trivial⟩

theorem tail_47 (r : List Int) (pc vec back : Int) (on hdl : Bool) (bd : BoardS) (F) (w cyc d a b imm : Int) (hs : RegOk ⟨r, pc, vec, back, on, hdl⟩) (hbd : BdOk bd) (hd : 0 ≤ d ∧ d < 16) (ha : 0 ≤ a ∧ a < 16) (hb : 0 ≤ b ∧ b < 16) (hdec : DecIs w 47 d a b imm)
    (cyc' : Int) (hcyc' : cyc' = i64 (cyc + 1)) : TailOk ⟨r, pc, vec, back, on, hdl⟩ bd F w cyc (.lit 0) ⟨4, cyc', 0, 0, 0, 0, false, 0, false, 0⟩ ⟨r, pc, vec, back, on, hdl⟩ bd := by
  have hx : U32 (rgL r a) := rg_ok hs a
  have hy : U32 (rgL r b) := rg_ok hs b
  have hi : U32 (w32 imm) := w32_ok imm
  refine kcode I11ok 6 ⟨[], 0⟩ tail11_chk ?_
  conv => cbv
  refine OkCall.by_spec hdec [2] (by decide) (by cbv) (by cbv) ?_
  conv => cbv
  repeat (first | refine And.intro (inR.mk (by omega) (by omega)) ?_ | refine And.intro (nLt.mk (by simp only [leafs]; omega)) ?_)
  conv => cbv
  refine (LeOut.mk' [0, 1, 2, 3] (by decide) rfl id ?_ ?_).two
  · conv => cbv
    exact ⟨by rw [hcyc']; show _ = addI .i64 cyc 1; rw [addI_eq]; rfl, trivial⟩
  · conv => cbv
    exact ⟨⟨(pcback hs.pc).symm, trivial⟩, trivial⟩

theorem tail_48 (r : List Int) (pc vec back : Int) (on hdl : Bool) (bd : BoardS) (F) (w cyc d a b imm : Int) (hs : RegOk ⟨r, pc, vec, back, on, hdl⟩) (hbd : BdOk bd) (hd : 0 ≤ d ∧ d < 16) (ha : 0 ≤ a ∧ a < 16) (hb : 0 ≤ b ∧ b < 16) (hdec : DecIs w 48 d a b imm)
    (pc' : Int) (cyc' : Int) (hpc' : pc' = w32 (pc + 4)) (hcyc' : cyc' = i64 (cyc + 1)) : TailOk ⟨r, pc, vec, back, on, hdl⟩ bd F w cyc (.lit 0) ⟨1, cyc', 0, 0, 0, 0, false, 0, false, 0⟩ ⟨r, pc', vec, back, on, hdl⟩ bd := by
  have hx : U32 (rgL r a) := rg_ok hs a
  have hy : U32 (rgL r b) := rg_ok hs b
  have hi : U32 (w32 imm) := w32_ok imm
  refine kcode I11ok 6 ⟨[], 0⟩ tail11_chk ?_
  conv => cbv
  refine OkCall.by_spec hdec [2] (by decide) (by cbv) (by cbv) ?_
  conv => cbv
  repeat (first | refine And.intro (inR.mk (by omega) (by omega)) ?_ | refine And.intro (nLt.mk (by simp only [leafs]; omega)) ?_)
  conv => cbv
  refine (LeOut.mk' [0, 1, 2, 3] (by decide) rfl id ?_ ?_).two
  · conv => cbv
    exact ⟨by rw [hcyc']; show _ = addI .i64 cyc 1; rw [addI_eq]; rfl, trivial⟩
  · conv => cbv
    exact ⟨⟨by rw [hpc']; exact (pc4 pc).symm, trivial⟩, trivial⟩

end Go.Proofs.YtkljgpepogkgdaaDoor
