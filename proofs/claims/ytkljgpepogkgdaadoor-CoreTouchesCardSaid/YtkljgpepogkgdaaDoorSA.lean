import Derived.Test.YtkljgpepogkgdaaDoorSQ
set_option linter.unusedVariables false
set_option linter.unusedSimpArgs false
namespace Go.Proofs.YtkljgpepogkgdaaDoor
open Go Go.Vex
set_option maxRecDepth 20000
set_option maxHeartbeats 4000000
theorem tail_1 (r : List Int) (pc vec back : Int) (on hdl : Bool) (bd : BoardS) (F) (w cyc d a b imm : Int) (hs : RegOk ⟨r, pc, vec, back, on, hdl⟩) (hbd : BdOk bd) (hd : 0 ≤ d ∧ d < 16) (ha : 0 ≤ a ∧ a < 16) (hb : 0 ≤ b ∧ b < 16) (hdec : DecIs w 1 d a b imm)
    (r' : List Int) (pc' : Int) (cyc' : Int) (hr' : r' = setR r d (sumF 1 (rgL r a) (rgL r b))) (hpc' : pc' = w32 (pc + 4)) (hcyc' : cyc' = i64 (cyc + 1)) : TailOk ⟨r, pc, vec, back, on, hdl⟩ bd F w cyc (.lit 0) ⟨1, cyc', 0, 0, 0, 0, false, 0, false, 0⟩ ⟨r', pc', vec, back, on, hdl⟩ bd := by
  have hx : U32 (rgL r a) := rg_ok hs a
  have hy : U32 (rgL r b) := rg_ok hs b
  have hi : U32 (w32 imm) := w32_ok imm
  refine kcode I11ok 6 ⟨[], 0⟩ tail11_chk ?_
  conv => cbv
  refine OkCall.by_spec hdec [2] (by decide) (by cbv) (by cbv) ?_
  conv => cbv
  repeat (first | refine And.intro (inR.mk (by omega) (by omega)) ?_ | refine And.intro (nLt.mk (by simp only [leafs]; omega)) ?_)
  conv => cbv
  repeat (first | refine And.intro (inR.mk (by omega) (by omega)) ?_ | refine And.intro (nLt.mk (by simp only [leafs]; omega)) ?_)
  conv => cbv
  refine (LeOut.mk' [0, 1, 2, 3] (by decide) rfl id ?_ ?_).two
  · conv => cbv
    exact ⟨by rw [hcyc']; show _ = addI .i64 cyc 1; rw [addI_eq]; rfl, trivial⟩
  · conv => cbv
    refine ⟨⟨?_, by rw [hpc']; exact (pc4 pc).symm, trivial⟩, trivial⟩
    show r' = setI (setI r (toN d) (addI .u32 (gi r (toN a)) (gi r (toN b)))) 0 0
    rw [setI2, giR, giR, sum_1]
    exact hr'

theorem tail_2 (r : List Int) (pc vec back : Int) (on hdl : Bool) (bd : BoardS) (F) (w cyc d a b imm : Int) (hs : RegOk ⟨r, pc, vec, back, on, hdl⟩) (hbd : BdOk bd) (hd : 0 ≤ d ∧ d < 16) (ha : 0 ≤ a ∧ a < 16) (hb : 0 ≤ b ∧ b < 16) (hdec : DecIs w 2 d a b imm)
    (r' : List Int) (pc' : Int) (cyc' : Int) (hr' : r' = setR r d (sumF 2 (rgL r a) (rgL r b))) (hpc' : pc' = w32 (pc + 4)) (hcyc' : cyc' = i64 (cyc + 1)) : TailOk ⟨r, pc, vec, back, on, hdl⟩ bd F w cyc (.lit 0) ⟨1, cyc', 0, 0, 0, 0, false, 0, false, 0⟩ ⟨r', pc', vec, back, on, hdl⟩ bd := by
  have hx : U32 (rgL r a) := rg_ok hs a
  have hy : U32 (rgL r b) := rg_ok hs b
  have hi : U32 (w32 imm) := w32_ok imm
  refine kcode I11ok 6 ⟨[], 0⟩ tail11_chk ?_
  conv => cbv
  refine OkCall.by_spec hdec [2] (by decide) (by cbv) (by cbv) ?_
  conv => cbv
  repeat (first | refine And.intro (inR.mk (by omega) (by omega)) ?_ | refine And.intro (nLt.mk (by simp only [leafs]; omega)) ?_)
  conv => cbv
  repeat (first | refine And.intro (inR.mk (by omega) (by omega)) ?_ | refine And.intro (nLt.mk (by simp only [leafs]; omega)) ?_)
  conv => cbv
  refine (LeOut.mk' [0, 1, 2, 3] (by decide) rfl id ?_ ?_).two
  · conv => cbv
    exact ⟨by rw [hcyc']; show _ = addI .i64 cyc 1; rw [addI_eq]; rfl, trivial⟩
  · conv => cbv
    refine ⟨⟨?_, by rw [hpc']; exact (pc4 pc).symm, trivial⟩, trivial⟩
    show r' = setI (setI r (toN d) (subI .u32 (gi r (toN a)) (gi r (toN b)))) 0 0
    rw [setI2, giR, giR, sum_2]
    exact hr'

theorem tail_3 (r : List Int) (pc vec back : Int) (on hdl : Bool) (bd : BoardS) (F) (w cyc d a b imm : Int) (hs : RegOk ⟨r, pc, vec, back, on, hdl⟩) (hbd : BdOk bd) (hd : 0 ≤ d ∧ d < 16) (ha : 0 ≤ a ∧ a < 16) (hb : 0 ≤ b ∧ b < 16) (hdec : DecIs w 3 d a b imm)
    (r' : List Int) (pc' : Int) (cyc' : Int) (hr' : r' = setR r d (sumF 3 (rgL r a) (rgL r b))) (hpc' : pc' = w32 (pc + 4)) (hcyc' : cyc' = i64 (cyc + 1)) : TailOk ⟨r, pc, vec, back, on, hdl⟩ bd F w cyc (.lit 0) ⟨1, cyc', 0, 0, 0, 0, false, 0, false, 0⟩ ⟨r', pc', vec, back, on, hdl⟩ bd := by
  have hx : U32 (rgL r a) := rg_ok hs a
  have hy : U32 (rgL r b) := rg_ok hs b
  have hi : U32 (w32 imm) := w32_ok imm
  refine kcode I11ok 6 ⟨[], 0⟩ tail11_chk ?_
  conv => cbv
  refine OkCall.by_spec hdec [2] (by decide) (by cbv) (by cbv) ?_
  conv => cbv
  repeat (first | refine And.intro (inR.mk (by omega) (by omega)) ?_ | refine And.intro (nLt.mk (by simp only [leafs]; omega)) ?_)
  conv => cbv
  repeat (first | refine And.intro (inR.mk (by omega) (by omega)) ?_ | refine And.intro (nLt.mk (by simp only [leafs]; omega)) ?_)
  conv => cbv
  refine (LeOut.mk' [0, 1, 2, 3] (by decide) rfl id ?_ ?_).two
  · conv => cbv
    exact ⟨by rw [hcyc']; show _ = addI .i64 cyc 1; rw [addI_eq]; rfl, trivial⟩
  · conv => cbv
    refine ⟨⟨?_, by rw [hpc']; exact (pc4 pc).symm, trivial⟩, trivial⟩
    show r' = setI (setI r (toN d) (mulI .u32 (gi r (toN a)) (gi r (toN b)))) 0 0
    rw [setI2, giR, giR, sum_3]
    exact hr'

theorem tail_4 (r : List Int) (pc vec back : Int) (on hdl : Bool) (bd : BoardS) (F) (w cyc d a b imm : Int) (hs : RegOk ⟨r, pc, vec, back, on, hdl⟩) (hbd : BdOk bd) (hd : 0 ≤ d ∧ d < 16) (ha : 0 ≤ a ∧ a < 16) (hb : 0 ≤ b ∧ b < 16) (hdec : DecIs w 4 d a b imm)
    (r' : List Int) (pc' : Int) (cyc' : Int) (hr' : r' = setR r d (sumF 4 (rgL r a) (rgL r b))) (hpc' : pc' = w32 (pc + 4)) (hcyc' : cyc' = i64 (cyc + 1)) : TailOk ⟨r, pc, vec, back, on, hdl⟩ bd F w cyc (.lit 0) ⟨1, cyc', 0, 0, 0, 0, false, 0, false, 0⟩ ⟨r', pc', vec, back, on, hdl⟩ bd := by
  have hx : U32 (rgL r a) := rg_ok hs a
  have hy : U32 (rgL r b) := rg_ok hs b
  have hi : U32 (w32 imm) := w32_ok imm
  refine kcode I11ok 6 ⟨[], 0⟩ tail11_chk ?_
  conv => cbv
  refine OkCall.by_spec hdec [2] (by decide) (by cbv) (by cbv) ?_
  conv => cbv
  repeat (first | refine And.intro (inR.mk (by omega) (by omega)) ?_ | refine And.intro (nLt.mk (by simp only [leafs]; omega)) ?_)
  conv => cbv
  refine Br.mk (fun hc => ?_) (fun hc => ?_)
  · replace hc : eqI (gi r (toN b)) 0 = true := hc
    rw [eqI_eq, beq_iff_eq, giR] at hc
    conv => cbv
    repeat (first | refine And.intro (inR.mk (by omega) (by omega)) ?_ | refine And.intro (nLt.mk (by simp only [leafs]; omega)) ?_)
    conv => cbv
    refine (LeOut.mk' [0, 1, 2, 3] (by decide) rfl id ?_ ?_).two
    · conv => cbv
      exact ⟨by rw [hcyc']; show _ = addI .i64 cyc 1; rw [addI_eq]; rfl, trivial⟩
    · conv => cbv
      refine ⟨⟨?_, by rw [hpc']; exact (pc4 pc).symm, trivial⟩, trivial⟩
      show r' = setI (setI r (toN d) (cplI .u32 (gi r (toN b)))) 0 0
      rw [setI2, giR, sum_4z (x := rgL r a) hc]
      exact hr'
  · replace hc : eqI (gi r (toN b)) 0 = false := hc
    rw [eqI_eq, beq_eq_false_iff_ne, giR] at hc
    conv => cbv
    refine And.intro (neZ.mk (by show (gi r (toN b)) ≠ 0; rw [giR]; exact hc)) ?_
    repeat (first | refine And.intro (inR.mk (by omega) (by omega)) ?_ | refine And.intro (nLt.mk (by simp only [leafs]; omega)) ?_)
    conv => cbv
    refine (LeOut.mk' [0, 1, 2, 3] (by decide) rfl id ?_ ?_).two
    · conv => cbv
      exact ⟨by rw [hcyc']; show _ = addI .i64 cyc 1; rw [addI_eq]; rfl, trivial⟩
    · conv => cbv
      refine ⟨⟨?_, by rw [hpc']; exact (pc4 pc).symm, trivial⟩, trivial⟩
      show r' = setI (setI r (toN d) (quoI .u32 (gi r (toN a)) (gi r (toN b)))) 0 0
      rw [setI2, giR, giR, sum_4 hx hy hc]
      exact hr'

theorem tail_5 (r : List Int) (pc vec back : Int) (on hdl : Bool) (bd : BoardS) (F) (w cyc d a b imm : Int) (hs : RegOk ⟨r, pc, vec, back, on, hdl⟩) (hbd : BdOk bd) (hd : 0 ≤ d ∧ d < 16) (ha : 0 ≤ a ∧ a < 16) (hb : 0 ≤ b ∧ b < 16) (hdec : DecIs w 5 d a b imm)
    (r' : List Int) (pc' : Int) (cyc' : Int) (hr' : r' = setR r d (sumF 5 (rgL r a) (rgL r b))) (hpc' : pc' = w32 (pc + 4)) (hcyc' : cyc' = i64 (cyc + 1)) : TailOk ⟨r, pc, vec, back, on, hdl⟩ bd F w cyc (.lit 0) ⟨1, cyc', 0, 0, 0, 0, false, 0, false, 0⟩ ⟨r', pc', vec, back, on, hdl⟩ bd := by
  have hx : U32 (rgL r a) := rg_ok hs a
  have hy : U32 (rgL r b) := rg_ok hs b
  have hi : U32 (w32 imm) := w32_ok imm
  refine kcode I11ok 6 ⟨[], 0⟩ tail11_chk ?_
  conv => cbv
  refine OkCall.by_spec hdec [2] (by decide) (by cbv) (by cbv) ?_
  conv => cbv
  repeat (first | refine And.intro (inR.mk (by omega) (by omega)) ?_ | refine And.intro (nLt.mk (by simp only [leafs]; omega)) ?_)
  conv => cbv
  refine Br.mk (fun hc => ?_) (fun hc => ?_)
  · replace hc : eqI (gi r (toN b)) 0 = true := hc
    rw [eqI_eq, beq_iff_eq, giR] at hc
    conv => cbv
    repeat (first | refine And.intro (inR.mk (by omega) (by omega)) ?_ | refine And.intro (nLt.mk (by simp only [leafs]; omega)) ?_)
    conv => cbv
    refine (LeOut.mk' [0, 1, 2, 3] (by decide) rfl id ?_ ?_).two
    · conv => cbv
      exact ⟨by rw [hcyc']; show _ = addI .i64 cyc 1; rw [addI_eq]; rfl, trivial⟩
    · conv => cbv
      refine ⟨⟨?_, by rw [hpc']; exact (pc4 pc).symm, trivial⟩, trivial⟩
      show r' = setI (setI r (toN d) ((gi r (toN a)))) 0 0
      rw [setI2, giR, sum_5z (x := rgL r a) (y := rgL r b) hc]
      exact hr'
  · replace hc : eqI (gi r (toN b)) 0 = false := hc
    rw [eqI_eq, beq_eq_false_iff_ne, giR] at hc
    conv => cbv
    refine And.intro (neZ.mk (by show (gi r (toN b)) ≠ 0; rw [giR]; exact hc)) ?_
    repeat (first | refine And.intro (inR.mk (by omega) (by omega)) ?_ | refine And.intro (nLt.mk (by simp only [leafs]; omega)) ?_)
    conv => cbv
    refine (LeOut.mk' [0, 1, 2, 3] (by decide) rfl id ?_ ?_).two
    · conv => cbv
      exact ⟨by rw [hcyc']; show _ = addI .i64 cyc 1; rw [addI_eq]; rfl, trivial⟩
    · conv => cbv
      refine ⟨⟨?_, by rw [hpc']; exact (pc4 pc).symm, trivial⟩, trivial⟩
      show r' = setI (setI r (toN d) (remI (gi r (toN a)) (gi r (toN b)))) 0 0
      rw [setI2, giR, giR, sum_5 hx hc]
      exact hr'

theorem tail_6 (r : List Int) (pc vec back : Int) (on hdl : Bool) (bd : BoardS) (F) (w cyc d a b imm : Int) (hs : RegOk ⟨r, pc, vec, back, on, hdl⟩) (hbd : BdOk bd) (hd : 0 ≤ d ∧ d < 16) (ha : 0 ≤ a ∧ a < 16) (hb : 0 ≤ b ∧ b < 16) (hdec : DecIs w 6 d a b imm)
    (r' : List Int) (pc' : Int) (cyc' : Int) (hr' : r' = setR r d (sumF 6 (rgL r a) (rgL r b))) (hpc' : pc' = w32 (pc + 4)) (hcyc' : cyc' = i64 (cyc + 1)) : TailOk ⟨r, pc, vec, back, on, hdl⟩ bd F w cyc (.lit 0) ⟨1, cyc', 0, 0, 0, 0, false, 0, false, 0⟩ ⟨r', pc', vec, back, on, hdl⟩ bd := by
  have hx : U32 (rgL r a) := rg_ok hs a
  have hy : U32 (rgL r b) := rg_ok hs b
  have hi : U32 (w32 imm) := w32_ok imm
  refine kcode I11ok 6 ⟨[], 0⟩ tail11_chk ?_
  conv => cbv
  refine OkCall.by_spec hdec [2] (by decide) (by cbv) (by cbv) ?_
  conv => cbv
  repeat (first | refine And.intro (inR.mk (by omega) (by omega)) ?_ | refine And.intro (nLt.mk (by simp only [leafs]; omega)) ?_)
  conv => cbv
  repeat (first | refine And.intro (inR.mk (by omega) (by omega)) ?_ | refine And.intro (nLt.mk (by simp only [leafs]; omega)) ?_)
  conv => cbv
  refine (LeOut.mk' [0, 1, 2, 3] (by decide) rfl id ?_ ?_).two
  · conv => cbv
    exact ⟨by rw [hcyc']; show _ = addI .i64 cyc 1; rw [addI_eq]; rfl, trivial⟩
  · conv => cbv
    refine ⟨⟨?_, by rw [hpc']; exact (pc4 pc).symm, trivial⟩, trivial⟩
    show r' = setI (setI r (toN d) (andI .u32 (gi r (toN a)) (gi r (toN b)))) 0 0
    rw [setI2, giR, giR, sum_6 hx hy]
    exact hr'

theorem tail_7 (r : List Int) (pc vec back : Int) (on hdl : Bool) (bd : BoardS) (F) (w cyc d a b imm : Int) (hs : RegOk ⟨r, pc, vec, back, on, hdl⟩) (hbd : BdOk bd) (hd : 0 ≤ d ∧ d < 16) (ha : 0 ≤ a ∧ a < 16) (hb : 0 ≤ b ∧ b < 16) (hdec : DecIs w 7 d a b imm)
    (r' : List Int) (pc' : Int) (cyc' : Int) (hr' : r' = setR r d (sumF 7 (rgL r a) (rgL r b))) (hpc' : pc' = w32 (pc + 4)) (hcyc' : cyc' = i64 (cyc + 1)) : TailOk ⟨r, pc, vec, back, on, hdl⟩ bd F w cyc (.lit 0) ⟨1, cyc', 0, 0, 0, 0, false, 0, false, 0⟩ ⟨r', pc', vec, back, on, hdl⟩ bd := by
  have hx : U32 (rgL r a) := rg_ok hs a
  have hy : U32 (rgL r b) := rg_ok hs b
  have hi : U32 (w32 imm) := w32_ok imm
  refine kcode I11ok 6 ⟨[], 0⟩ tail11_chk ?_
  conv => cbv
  refine OkCall.by_spec hdec [2] (by decide) (by cbv) (by cbv) ?_
  conv => cbv
  repeat (first | refine And.intro (inR.mk (by omega) (by omega)) ?_ | refine And.intro (nLt.mk (by simp only [leafs]; omega)) ?_)
  conv => cbv
  repeat (first | refine And.intro (inR.mk (by omega) (by omega)) ?_ | refine And.intro (nLt.mk (by simp only [leafs]; omega)) ?_)
  conv => cbv
  refine (LeOut.mk' [0, 1, 2, 3] (by decide) rfl id ?_ ?_).two
  · conv => cbv
    exact ⟨by rw [hcyc']; show _ = addI .i64 cyc 1; rw [addI_eq]; rfl, trivial⟩
  · conv => cbv
    refine ⟨⟨?_, by rw [hpc']; exact (pc4 pc).symm, trivial⟩, trivial⟩
    show r' = setI (setI r (toN d) (orI .u32 (gi r (toN a)) (gi r (toN b)))) 0 0
    rw [setI2, giR, giR, sum_7 hx hy]
    exact hr'

theorem tail_8 (r : List Int) (pc vec back : Int) (on hdl : Bool) (bd : BoardS) (F) (w cyc d a b imm : Int) (hs : RegOk ⟨r, pc, vec, back, on, hdl⟩) (hbd : BdOk bd) (hd : 0 ≤ d ∧ d < 16) (ha : 0 ≤ a ∧ a < 16) (hb : 0 ≤ b ∧ b < 16) (hdec : DecIs w 8 d a b imm)
    (r' : List Int) (pc' : Int) (cyc' : Int) (hr' : r' = setR r d (sumF 8 (rgL r a) (rgL r b))) (hpc' : pc' = w32 (pc + 4)) (hcyc' : cyc' = i64 (cyc + 1)) : TailOk ⟨r, pc, vec, back, on, hdl⟩ bd F w cyc (.lit 0) ⟨1, cyc', 0, 0, 0, 0, false, 0, false, 0⟩ ⟨r', pc', vec, back, on, hdl⟩ bd := by
  have hx : U32 (rgL r a) := rg_ok hs a
  have hy : U32 (rgL r b) := rg_ok hs b
  have hi : U32 (w32 imm) := w32_ok imm
  refine kcode I11ok 6 ⟨[], 0⟩ tail11_chk ?_
  conv => cbv
  refine OkCall.by_spec hdec [2] (by decide) (by cbv) (by cbv) ?_
  conv => cbv
  repeat (first | refine And.intro (inR.mk (by omega) (by omega)) ?_ | refine And.intro (nLt.mk (by simp only [leafs]; omega)) ?_)
  conv => cbv
  repeat (first | refine And.intro (inR.mk (by omega) (by omega)) ?_ | refine And.intro (nLt.mk (by simp only [leafs]; omega)) ?_)
  conv => cbv
  refine (LeOut.mk' [0, 1, 2, 3] (by decide) rfl id ?_ ?_).two
  · conv => cbv
    exact ⟨by rw [hcyc']; show _ = addI .i64 cyc 1; rw [addI_eq]; rfl, trivial⟩
  · conv => cbv
    refine ⟨⟨?_, by rw [hpc']; exact (pc4 pc).symm, trivial⟩, trivial⟩
    show r' = setI (setI r (toN d) (xorI .u32 (gi r (toN a)) (gi r (toN b)))) 0 0
    rw [setI2, giR, giR, sum_8 hx hy]
    exact hr'

theorem tail_9 (r : List Int) (pc vec back : Int) (on hdl : Bool) (bd : BoardS) (F) (w cyc d a b imm : Int) (hs : RegOk ⟨r, pc, vec, back, on, hdl⟩) (hbd : BdOk bd) (hd : 0 ≤ d ∧ d < 16) (ha : 0 ≤ a ∧ a < 16) (hb : 0 ≤ b ∧ b < 16) (hdec : DecIs w 9 d a b imm)
    (r' : List Int) (pc' : Int) (cyc' : Int) (hr' : r' = setR r d (sumF 9 (rgL r a) (rgL r b))) (hpc' : pc' = w32 (pc + 4)) (hcyc' : cyc' = i64 (cyc + 1)) : TailOk ⟨r, pc, vec, back, on, hdl⟩ bd F w cyc (.lit 0) ⟨1, cyc', 0, 0, 0, 0, false, 0, false, 0⟩ ⟨r', pc', vec, back, on, hdl⟩ bd := by
  have hx : U32 (rgL r a) := rg_ok hs a
  have hy : U32 (rgL r b) := rg_ok hs b
  have hi : U32 (w32 imm) := w32_ok imm
  refine kcode I11ok 6 ⟨[], 0⟩ tail11_chk ?_
  conv => cbv
  refine OkCall.by_spec hdec [2] (by decide) (by cbv) (by cbv) ?_
  conv => cbv
  repeat (first | refine And.intro (inR.mk (by omega) (by omega)) ?_ | refine And.intro (nLt.mk (by simp only [leafs]; omega)) ?_)
  conv => cbv
  refine And.intro (geZ.mk (by show 0 ≤ andI .u32 (gi r (toN b)) 31; rw [giR, m31 hy]; omega)) ?_
  repeat (first | refine And.intro (inR.mk (by omega) (by omega)) ?_ | refine And.intro (nLt.mk (by simp only [leafs]; omega)) ?_)
  conv => cbv
  refine (LeOut.mk' [0, 1, 2, 3] (by decide) rfl id ?_ ?_).two
  · conv => cbv
    exact ⟨by rw [hcyc']; show _ = addI .i64 cyc 1; rw [addI_eq]; rfl, trivial⟩
  · conv => cbv
    refine ⟨⟨?_, by rw [hpc']; exact (pc4 pc).symm, trivial⟩, trivial⟩
    show r' = setI (setI r (toN d) (shlI .u32 (gi r (toN a)) (andI .u32 (gi r (toN b)) 31))) 0 0
    rw [setI2, giR, giR, sum_9 hy]
    exact hr'

theorem tail_10 (r : List Int) (pc vec back : Int) (on hdl : Bool) (bd : BoardS) (F) (w cyc d a b imm : Int) (hs : RegOk ⟨r, pc, vec, back, on, hdl⟩) (hbd : BdOk bd) (hd : 0 ≤ d ∧ d < 16) (ha : 0 ≤ a ∧ a < 16) (hb : 0 ≤ b ∧ b < 16) (hdec : DecIs w 10 d a b imm)
    (r' : List Int) (pc' : Int) (cyc' : Int) (hr' : r' = setR r d (sumF 10 (rgL r a) (rgL r b))) (hpc' : pc' = w32 (pc + 4)) (hcyc' : cyc' = i64 (cyc + 1)) : TailOk ⟨r, pc, vec, back, on, hdl⟩ bd F w cyc (.lit 0) ⟨1, cyc', 0, 0, 0, 0, false, 0, false, 0⟩ ⟨r', pc', vec, back, on, hdl⟩ bd := by
  have hx : U32 (rgL r a) := rg_ok hs a
  have hy : U32 (rgL r b) := rg_ok hs b
  have hi : U32 (w32 imm) := w32_ok imm
  refine kcode I11ok 6 ⟨[], 0⟩ tail11_chk ?_
  conv => cbv
  refine OkCall.by_spec hdec [2] (by decide) (by cbv) (by cbv) ?_
  conv => cbv
  repeat (first | refine And.intro (inR.mk (by omega) (by omega)) ?_ | refine And.intro (nLt.mk (by simp only [leafs]; omega)) ?_)
  conv => cbv
  refine And.intro (geZ.mk (by show 0 ≤ andI .u32 (gi r (toN b)) 31; rw [giR, m31 hy]; omega)) ?_
  repeat (first | refine And.intro (inR.mk (by omega) (by omega)) ?_ | refine And.intro (nLt.mk (by simp only [leafs]; omega)) ?_)
  conv => cbv
  refine (LeOut.mk' [0, 1, 2, 3] (by decide) rfl id ?_ ?_).two
  · conv => cbv
    exact ⟨by rw [hcyc']; show _ = addI .i64 cyc 1; rw [addI_eq]; rfl, trivial⟩
  · conv => cbv
    refine ⟨⟨?_, by rw [hpc']; exact (pc4 pc).symm, trivial⟩, trivial⟩
    show r' = setI (setI r (toN d) (shrI .u32 (gi r (toN a)) (andI .u32 (gi r (toN b)) 31))) 0 0
    rw [setI2, giR, giR, sum_10 hy]
    exact hr'

theorem tail_11 (r : List Int) (pc vec back : Int) (on hdl : Bool) (bd : BoardS) (F) (w cyc d a b imm : Int) (hs : RegOk ⟨r, pc, vec, back, on, hdl⟩) (hbd : BdOk bd) (hd : 0 ≤ d ∧ d < 16) (ha : 0 ≤ a ∧ a < 16) (hb : 0 ≤ b ∧ b < 16) (hdec : DecIs w 11 d a b imm)
    (r' : List Int) (pc' : Int) (cyc' : Int) (hr' : r' = setR r d (sumF 11 (rgL r a) (rgL r b))) (hpc' : pc' = w32 (pc + 4)) (hcyc' : cyc' = i64 (cyc + 1)) : TailOk ⟨r, pc, vec, back, on, hdl⟩ bd F w cyc (.lit 0) ⟨1, cyc', 0, 0, 0, 0, false, 0, false, 0⟩ ⟨r', pc', vec, back, on, hdl⟩ bd := by
  have hx : U32 (rgL r a) := rg_ok hs a
  have hy : U32 (rgL r b) := rg_ok hs b
  have hi : U32 (w32 imm) := w32_ok imm
  refine kcode I11ok 6 ⟨[], 0⟩ tail11_chk ?_
  conv => cbv
  refine OkCall.by_spec hdec [2] (by decide) (by cbv) (by cbv) ?_
  conv => cbv
  repeat (first | refine And.intro (inR.mk (by omega) (by omega)) ?_ | refine And.intro (nLt.mk (by simp only [leafs]; omega)) ?_)
  conv => cbv
  refine And.intro (geZ.mk (by show 0 ≤ andI .u32 (gi r (toN b)) 31; rw [giR, m31 hy]; omega)) ?_
  repeat (first | refine And.intro (inR.mk (by omega) (by omega)) ?_ | refine And.intro (nLt.mk (by simp only [leafs]; omega)) ?_)
  conv => cbv
  refine (LeOut.mk' [0, 1, 2, 3] (by decide) rfl id ?_ ?_).two
  · conv => cbv
    exact ⟨by rw [hcyc']; show _ = addI .i64 cyc 1; rw [addI_eq]; rfl, trivial⟩
  · conv => cbv
    refine ⟨⟨?_, by rw [hpc']; exact (pc4 pc).symm, trivial⟩, trivial⟩
    show r' = setI (setI r (toN d) (convI .u32 (shrI .i32 (convI .i32 (gi r (toN a))) (andI .u32 (gi r (toN b)) 31)))) 0 0
    rw [setI2, giR, giR, sum_11 hx hy]
    exact hr'

theorem tail_12 (r : List Int) (pc vec back : Int) (on hdl : Bool) (bd : BoardS) (F) (w cyc d a b imm : Int) (hs : RegOk ⟨r, pc, vec, back, on, hdl⟩) (hbd : BdOk bd) (hd : 0 ≤ d ∧ d < 16) (ha : 0 ≤ a ∧ a < 16) (hb : 0 ≤ b ∧ b < 16) (hdec : DecIs w 12 d a b imm)
    (r' : List Int) (pc' : Int) (cyc' : Int) (hr' : r' = setR r d (sumF 12 (rgL r a) (rgL r b))) (hpc' : pc' = w32 (pc + 4)) (hcyc' : cyc' = i64 (cyc + 1)) : TailOk ⟨r, pc, vec, back, on, hdl⟩ bd F w cyc (.lit 0) ⟨1, cyc', 0, 0, 0, 0, false, 0, false, 0⟩ ⟨r', pc', vec, back, on, hdl⟩ bd := by
  have hx : U32 (rgL r a) := rg_ok hs a
  have hy : U32 (rgL r b) := rg_ok hs b
  have hi : U32 (w32 imm) := w32_ok imm
  refine kcode I11ok 6 ⟨[], 0⟩ tail11_chk ?_
  conv => cbv
  refine OkCall.by_spec hdec [2] (by decide) (by cbv) (by cbv) ?_
  conv => cbv
  repeat (first | refine And.intro (inR.mk (by omega) (by omega)) ?_ | refine And.intro (nLt.mk (by simp only [leafs]; omega)) ?_)
  conv => cbv
  refine Br.mk (fun hc => ?_) (fun hc => ?_)
  · replace hc : ltI (convI .i32 (gi r (toN a))) (convI .i32 (gi r (toN b))) = true := hc
    rw [giR, giR] at hc
    conv => cbv
    repeat (first | refine And.intro (inR.mk (by omega) (by omega)) ?_ | refine And.intro (nLt.mk (by simp only [leafs]; omega)) ?_)
    conv => cbv
    refine (LeOut.mk' [0, 1, 2, 3] (by decide) rfl id ?_ ?_).two
    · conv => cbv
      exact ⟨by rw [hcyc']; show _ = addI .i64 cyc 1; rw [addI_eq]; rfl, trivial⟩
    · conv => cbv
      refine ⟨⟨?_, by rw [hpc']; exact (pc4 pc).symm, trivial⟩, trivial⟩
      show r' = setI (setI r (toN d) (1)) 0 0
      rw [setI2, sum_12y hx hy hc]
      exact hr'
  · replace hc : ltI (convI .i32 (gi r (toN a))) (convI .i32 (gi r (toN b))) = false := hc
    rw [giR, giR] at hc
    conv => cbv
    repeat (first | refine And.intro (inR.mk (by omega) (by omega)) ?_ | refine And.intro (nLt.mk (by simp only [leafs]; omega)) ?_)
    conv => cbv
    refine (LeOut.mk' [0, 1, 2, 3] (by decide) rfl id ?_ ?_).two
    · conv => cbv
      exact ⟨by rw [hcyc']; show _ = addI .i64 cyc 1; rw [addI_eq]; rfl, trivial⟩
    · conv => cbv
      refine ⟨⟨?_, by rw [hpc']; exact (pc4 pc).symm, trivial⟩, trivial⟩
      show r' = setI (setI r (toN d) (0)) 0 0
      rw [setI2, sum_12n hx hy hc]
      exact hr'

theorem tail_13 (r : List Int) (pc vec back : Int) (on hdl : Bool) (bd : BoardS) (F) (w cyc d a b imm : Int) (hs : RegOk ⟨r, pc, vec, back, on, hdl⟩) (hbd : BdOk bd) (hd : 0 ≤ d ∧ d < 16) (ha : 0 ≤ a ∧ a < 16) (hb : 0 ≤ b ∧ b < 16) (hdec : DecIs w 13 d a b imm)
    (r' : List Int) (pc' : Int) (cyc' : Int) (hr' : r' = setR r d (sumF 13 (rgL r a) (rgL r b))) (hpc' : pc' = w32 (pc + 4)) (hcyc' : cyc' = i64 (cyc + 1)) : TailOk ⟨r, pc, vec, back, on, hdl⟩ bd F w cyc (.lit 0) ⟨1, cyc', 0, 0, 0, 0, false, 0, false, 0⟩ ⟨r', pc', vec, back, on, hdl⟩ bd := by
  have hx : U32 (rgL r a) := rg_ok hs a
  have hy : U32 (rgL r b) := rg_ok hs b
  have hi : U32 (w32 imm) := w32_ok imm
  refine kcode I11ok 6 ⟨[], 0⟩ tail11_chk ?_
  conv => cbv
  refine OkCall.by_spec hdec [2] (by decide) (by cbv) (by cbv) ?_
  conv => cbv
  repeat (first | refine And.intro (inR.mk (by omega) (by omega)) ?_ | refine And.intro (nLt.mk (by simp only [leafs]; omega)) ?_)
  conv => cbv
  refine Br.mk (fun hc => ?_) (fun hc => ?_)
  · replace hc : ltI (gi r (toN a)) (gi r (toN b)) = true := hc
    rw [giR, giR] at hc
    conv => cbv
    repeat (first | refine And.intro (inR.mk (by omega) (by omega)) ?_ | refine And.intro (nLt.mk (by simp only [leafs]; omega)) ?_)
    conv => cbv
    refine (LeOut.mk' [0, 1, 2, 3] (by decide) rfl id ?_ ?_).two
    · conv => cbv
      exact ⟨by rw [hcyc']; show _ = addI .i64 cyc 1; rw [addI_eq]; rfl, trivial⟩
    · conv => cbv
      refine ⟨⟨?_, by rw [hpc']; exact (pc4 pc).symm, trivial⟩, trivial⟩
      show r' = setI (setI r (toN d) (1)) 0 0
      rw [setI2, sum_13y hc]
      exact hr'
  · replace hc : ltI (gi r (toN a)) (gi r (toN b)) = false := hc
    rw [giR, giR] at hc
    conv => cbv
    repeat (first | refine And.intro (inR.mk (by omega) (by omega)) ?_ | refine And.intro (nLt.mk (by simp only [leafs]; omega)) ?_)
    conv => cbv
    refine (LeOut.mk' [0, 1, 2, 3] (by decide) rfl id ?_ ?_).two
    · conv => cbv
      exact ⟨by rw [hcyc']; show _ = addI .i64 cyc 1; rw [addI_eq]; rfl, trivial⟩
    · conv => cbv
      refine ⟨⟨?_, by rw [hpc']; exact (pc4 pc).symm, trivial⟩, trivial⟩
      show r' = setI (setI r (toN d) (0)) 0 0
      rw [setI2, sum_13n hc]
      exact hr'

end Go.Proofs.YtkljgpepogkgdaaDoor
