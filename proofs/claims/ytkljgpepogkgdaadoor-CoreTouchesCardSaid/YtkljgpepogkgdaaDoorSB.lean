import Derived.Test.YtkljgpepogkgdaaDoorSQ
set_option linter.unusedVariables false
set_option linter.unusedSimpArgs false
namespace Go.Proofs.YtkljgpepogkgdaaDoor
open Go Go.Vex
set_option maxRecDepth 20000
set_option maxHeartbeats 4000000
theorem tail_14 (r : List Int) (pc vec back : Int) (on hdl : Bool) (bd : BoardS) (F) (w cyc d a b imm : Int) (hs : RegOk ⟨r, pc, vec, back, on, hdl⟩) (hbd : BdOk bd) (hd : 0 ≤ d ∧ d < 16) (ha : 0 ≤ a ∧ a < 16) (hb : 0 ≤ b ∧ b < 16) (hdec : DecIs w 14 d a b imm)
    (r' : List Int) (pc' : Int) (cyc' : Int) (hr' : r' = setR r d (sumF 1 (rgL r a) (w32 imm))) (hpc' : pc' = w32 (pc + 4)) (hcyc' : cyc' = i64 (cyc + 1)) : TailOk ⟨r, pc, vec, back, on, hdl⟩ bd F w cyc (.lit 0) ⟨1, cyc', 0, 0, 0, 0, false, 0, false, 0⟩ ⟨r', pc', vec, back, on, hdl⟩ bd := by
  have hx : U32 (rgL r a) := rg_ok hs a
  have hy : U32 (rgL r b) := rg_ok hs b
  have hi : U32 (w32 imm) := w32_ok imm
  refine kcode I11ok 6 ⟨[], 0⟩ tail11_chk ?_
  conv => cbv
  refine OkCall.by_spec hdec [2] (by decide) (by cbv) (by cbv) ?_
  conv => cbv
  obtain ⟨xa, hxa⟩ : ∃ x, x = rgL r a := ⟨_, rfl⟩
  obtain ⟨z, hz⟩ : ∃ z, z = sumF 1 xa (w32 imm) := ⟨_, rfl⟩
  rw [← hxa] at hr' hx
  rw [← hz] at hr'
  refine sum_q1 ?_
  conv => cbv
  refine QCall.of_call (.i .u32 (.ex xa)) rfl (into I11ok 6 ?_) ?_
  · conv => cbv
    refine ⟨inR.mk (by omega) (by omega), nLt.mk (by simp only [leafs]; omega), ?_⟩
    show xa = gi r (toN a)
    rw [hxa, giR]
  conv => cbv
  refine clo_1 hx (by show U32 (convI .u32 imm); rw [conv_imm]; exact hi) (by show z = sumF 1 xa (convI .u32 imm); rw [conv_imm]; exact hz) ?_
  conv => cbv
  repeat (first | refine And.intro (inR.mk (by omega) (by omega)) ?_ | refine And.intro (nLt.mk (by simp only [leafs]; omega)) ?_)
  conv => cbv
  refine (LeOut.mk' [0, 1, 2, 3] (by decide) rfl id ?_ ?_).two
  · conv => cbv
    exact ⟨by rw [hcyc']; show _ = addI .i64 cyc 1; rw [addI_eq]; rfl, trivial⟩
  · conv => cbv
    refine ⟨⟨?_, by rw [hpc']; exact (pc4 pc).symm, trivial⟩, trivial⟩
    show r' = setI (setI r (toN d) (z)) 0 0
    rw [setI2]
    exact hr'

theorem tail_15 (r : List Int) (pc vec back : Int) (on hdl : Bool) (bd : BoardS) (F) (w cyc d a b imm : Int) (hs : RegOk ⟨r, pc, vec, back, on, hdl⟩) (hbd : BdOk bd) (hd : 0 ≤ d ∧ d < 16) (ha : 0 ≤ a ∧ a < 16) (hb : 0 ≤ b ∧ b < 16) (hdec : DecIs w 15 d a b imm)
    (r' : List Int) (pc' : Int) (cyc' : Int) (hr' : r' = setR r d (sumF 6 (rgL r a) (w32 imm))) (hpc' : pc' = w32 (pc + 4)) (hcyc' : cyc' = i64 (cyc + 1)) : TailOk ⟨r, pc, vec, back, on, hdl⟩ bd F w cyc (.lit 0) ⟨1, cyc', 0, 0, 0, 0, false, 0, false, 0⟩ ⟨r', pc', vec, back, on, hdl⟩ bd := by
  have hx : U32 (rgL r a) := rg_ok hs a
  have hy : U32 (rgL r b) := rg_ok hs b
  have hi : U32 (w32 imm) := w32_ok imm
  refine kcode I11ok 6 ⟨[], 0⟩ tail11_chk ?_
  conv => cbv
  refine OkCall.by_spec hdec [2] (by decide) (by cbv) (by cbv) ?_
  conv => cbv
  obtain ⟨xa, hxa⟩ : ∃ x, x = rgL r a := ⟨_, rfl⟩
  obtain ⟨z, hz⟩ : ∃ z, z = sumF 6 xa (w32 imm) := ⟨_, rfl⟩
  rw [← hxa] at hr' hx
  rw [← hz] at hr'
  refine sum_q6 ?_
  conv => cbv
  refine QCall.of_call (.i .u32 (.ex xa)) rfl (into I11ok 6 ?_) ?_
  · conv => cbv
    refine ⟨inR.mk (by omega) (by omega), nLt.mk (by simp only [leafs]; omega), ?_⟩
    show xa = gi r (toN a)
    rw [hxa, giR]
  conv => cbv
  refine clo_6 hx (by show U32 (convI .u32 imm); rw [conv_imm]; exact hi) (by show z = sumF 6 xa (convI .u32 imm); rw [conv_imm]; exact hz) ?_
  conv => cbv
  repeat (first | refine And.intro (inR.mk (by omega) (by omega)) ?_ | refine And.intro (nLt.mk (by simp only [leafs]; omega)) ?_)
  conv => cbv
  refine (LeOut.mk' [0, 1, 2, 3] (by decide) rfl id ?_ ?_).two
  · conv => cbv
    exact ⟨by rw [hcyc']; show _ = addI .i64 cyc 1; rw [addI_eq]; rfl, trivial⟩
  · conv => cbv
    refine ⟨⟨?_, by rw [hpc']; exact (pc4 pc).symm, trivial⟩, trivial⟩
    show r' = setI (setI r (toN d) (z)) 0 0
    rw [setI2]
    exact hr'

theorem tail_16 (r : List Int) (pc vec back : Int) (on hdl : Bool) (bd : BoardS) (F) (w cyc d a b imm : Int) (hs : RegOk ⟨r, pc, vec, back, on, hdl⟩) (hbd : BdOk bd) (hd : 0 ≤ d ∧ d < 16) (ha : 0 ≤ a ∧ a < 16) (hb : 0 ≤ b ∧ b < 16) (hdec : DecIs w 16 d a b imm)
    (r' : List Int) (pc' : Int) (cyc' : Int) (hr' : r' = setR r d (sumF 7 (rgL r a) (w32 imm))) (hpc' : pc' = w32 (pc + 4)) (hcyc' : cyc' = i64 (cyc + 1)) : TailOk ⟨r, pc, vec, back, on, hdl⟩ bd F w cyc (.lit 0) ⟨1, cyc', 0, 0, 0, 0, false, 0, false, 0⟩ ⟨r', pc', vec, back, on, hdl⟩ bd := by
  have hx : U32 (rgL r a) := rg_ok hs a
  have hy : U32 (rgL r b) := rg_ok hs b
  have hi : U32 (w32 imm) := w32_ok imm
  refine kcode I11ok 6 ⟨[], 0⟩ tail11_chk ?_
  conv => cbv
  refine OkCall.by_spec hdec [2] (by decide) (by cbv) (by cbv) ?_
  conv => cbv
  obtain ⟨xa, hxa⟩ : ∃ x, x = rgL r a := ⟨_, rfl⟩
  obtain ⟨z, hz⟩ : ∃ z, z = sumF 7 xa (w32 imm) := ⟨_, rfl⟩
  rw [← hxa] at hr' hx
  rw [← hz] at hr'
  refine sum_q7 ?_
  conv => cbv
  refine QCall.of_call (.i .u32 (.ex xa)) rfl (into I11ok 6 ?_) ?_
  · conv => cbv
    refine ⟨inR.mk (by omega) (by omega), nLt.mk (by simp only [leafs]; omega), ?_⟩
    show xa = gi r (toN a)
    rw [hxa, giR]
  conv => cbv
  refine clo_7 hx (by show U32 (convI .u32 imm); rw [conv_imm]; exact hi) (by show z = sumF 7 xa (convI .u32 imm); rw [conv_imm]; exact hz) ?_
  conv => cbv
  repeat (first | refine And.intro (inR.mk (by omega) (by omega)) ?_ | refine And.intro (nLt.mk (by simp only [leafs]; omega)) ?_)
  conv => cbv
  refine (LeOut.mk' [0, 1, 2, 3] (by decide) rfl id ?_ ?_).two
  · conv => cbv
    exact ⟨by rw [hcyc']; show _ = addI .i64 cyc 1; rw [addI_eq]; rfl, trivial⟩
  · conv => cbv
    refine ⟨⟨?_, by rw [hpc']; exact (pc4 pc).symm, trivial⟩, trivial⟩
    show r' = setI (setI r (toN d) (z)) 0 0
    rw [setI2]
    exact hr'

theorem tail_17 (r : List Int) (pc vec back : Int) (on hdl : Bool) (bd : BoardS) (F) (w cyc d a b imm : Int) (hs : RegOk ⟨r, pc, vec, back, on, hdl⟩) (hbd : BdOk bd) (hd : 0 ≤ d ∧ d < 16) (ha : 0 ≤ a ∧ a < 16) (hb : 0 ≤ b ∧ b < 16) (hdec : DecIs w 17 d a b imm)
    (r' : List Int) (pc' : Int) (cyc' : Int) (hr' : r' = setR r d (sumF 8 (rgL r a) (w32 imm))) (hpc' : pc' = w32 (pc + 4)) (hcyc' : cyc' = i64 (cyc + 1)) : TailOk ⟨r, pc, vec, back, on, hdl⟩ bd F w cyc (.lit 0) ⟨1, cyc', 0, 0, 0, 0, false, 0, false, 0⟩ ⟨r', pc', vec, back, on, hdl⟩ bd := by
  have hx : U32 (rgL r a) := rg_ok hs a
  have hy : U32 (rgL r b) := rg_ok hs b
  have hi : U32 (w32 imm) := w32_ok imm
  refine kcode I11ok 6 ⟨[], 0⟩ tail11_chk ?_
  conv => cbv
  refine OkCall.by_spec hdec [2] (by decide) (by cbv) (by cbv) ?_
  conv => cbv
  obtain ⟨xa, hxa⟩ : ∃ x, x = rgL r a := ⟨_, rfl⟩
  obtain ⟨z, hz⟩ : ∃ z, z = sumF 8 xa (w32 imm) := ⟨_, rfl⟩
  rw [← hxa] at hr' hx
  rw [← hz] at hr'
  refine sum_q8 ?_
  conv => cbv
  refine QCall.of_call (.i .u32 (.ex xa)) rfl (into I11ok 6 ?_) ?_
  · conv => cbv
    refine ⟨inR.mk (by omega) (by omega), nLt.mk (by simp only [leafs]; omega), ?_⟩
    show xa = gi r (toN a)
    rw [hxa, giR]
  conv => cbv
  refine clo_8 hx (by show U32 (convI .u32 imm); rw [conv_imm]; exact hi) (by show z = sumF 8 xa (convI .u32 imm); rw [conv_imm]; exact hz) ?_
  conv => cbv
  repeat (first | refine And.intro (inR.mk (by omega) (by omega)) ?_ | refine And.intro (nLt.mk (by simp only [leafs]; omega)) ?_)
  conv => cbv
  refine (LeOut.mk' [0, 1, 2, 3] (by decide) rfl id ?_ ?_).two
  · conv => cbv
    exact ⟨by rw [hcyc']; show _ = addI .i64 cyc 1; rw [addI_eq]; rfl, trivial⟩
  · conv => cbv
    refine ⟨⟨?_, by rw [hpc']; exact (pc4 pc).symm, trivial⟩, trivial⟩
    show r' = setI (setI r (toN d) (z)) 0 0
    rw [setI2]
    exact hr'

theorem tail_18 (r : List Int) (pc vec back : Int) (on hdl : Bool) (bd : BoardS) (F) (w cyc d a b imm : Int) (hs : RegOk ⟨r, pc, vec, back, on, hdl⟩) (hbd : BdOk bd) (hd : 0 ≤ d ∧ d < 16) (ha : 0 ≤ a ∧ a < 16) (hb : 0 ≤ b ∧ b < 16) (hdec : DecIs w 18 d a b imm)
    (r' : List Int) (pc' : Int) (cyc' : Int) (hr' : r' = setR r d (sumF 9 (rgL r a) (w32 imm))) (hpc' : pc' = w32 (pc + 4)) (hcyc' : cyc' = i64 (cyc + 1)) : TailOk ⟨r, pc, vec, back, on, hdl⟩ bd F w cyc (.lit 0) ⟨1, cyc', 0, 0, 0, 0, false, 0, false, 0⟩ ⟨r', pc', vec, back, on, hdl⟩ bd := by
  have hx : U32 (rgL r a) := rg_ok hs a
  have hy : U32 (rgL r b) := rg_ok hs b
  have hi : U32 (w32 imm) := w32_ok imm
  refine kcode I11ok 6 ⟨[], 0⟩ tail11_chk ?_
  conv => cbv
  refine OkCall.by_spec hdec [2] (by decide) (by cbv) (by cbv) ?_
  conv => cbv
  obtain ⟨xa, hxa⟩ : ∃ x, x = rgL r a := ⟨_, rfl⟩
  obtain ⟨z, hz⟩ : ∃ z, z = sumF 9 xa (w32 imm) := ⟨_, rfl⟩
  rw [← hxa] at hr' hx
  rw [← hz] at hr'
  refine sum_q9 ?_
  conv => cbv
  refine QCall.of_call (.i .u32 (.ex xa)) rfl (into I11ok 6 ?_) ?_
  · conv => cbv
    refine ⟨inR.mk (by omega) (by omega), nLt.mk (by simp only [leafs]; omega), ?_⟩
    show xa = gi r (toN a)
    rw [hxa, giR]
  conv => cbv
  refine clo_9 hx (by show U32 (convI .u32 imm); rw [conv_imm]; exact hi) (by show z = sumF 9 xa (convI .u32 imm); rw [conv_imm]; exact hz) ?_
  conv => cbv
  repeat (first | refine And.intro (inR.mk (by omega) (by omega)) ?_ | refine And.intro (nLt.mk (by simp only [leafs]; omega)) ?_)
  conv => cbv
  refine (LeOut.mk' [0, 1, 2, 3] (by decide) rfl id ?_ ?_).two
  · conv => cbv
    exact ⟨by rw [hcyc']; show _ = addI .i64 cyc 1; rw [addI_eq]; rfl, trivial⟩
  · conv => cbv
    refine ⟨⟨?_, by rw [hpc']; exact (pc4 pc).symm, trivial⟩, trivial⟩
    show r' = setI (setI r (toN d) (z)) 0 0
    rw [setI2]
    exact hr'

theorem tail_19 (r : List Int) (pc vec back : Int) (on hdl : Bool) (bd : BoardS) (F) (w cyc d a b imm : Int) (hs : RegOk ⟨r, pc, vec, back, on, hdl⟩) (hbd : BdOk bd) (hd : 0 ≤ d ∧ d < 16) (ha : 0 ≤ a ∧ a < 16) (hb : 0 ≤ b ∧ b < 16) (hdec : DecIs w 19 d a b imm)
    (r' : List Int) (pc' : Int) (cyc' : Int) (hr' : r' = setR r d (sumF 10 (rgL r a) (w32 imm))) (hpc' : pc' = w32 (pc + 4)) (hcyc' : cyc' = i64 (cyc + 1)) : TailOk ⟨r, pc, vec, back, on, hdl⟩ bd F w cyc (.lit 0) ⟨1, cyc', 0, 0, 0, 0, false, 0, false, 0⟩ ⟨r', pc', vec, back, on, hdl⟩ bd := by
  have hx : U32 (rgL r a) := rg_ok hs a
  have hy : U32 (rgL r b) := rg_ok hs b
  have hi : U32 (w32 imm) := w32_ok imm
  refine kcode I11ok 6 ⟨[], 0⟩ tail11_chk ?_
  conv => cbv
  refine OkCall.by_spec hdec [2] (by decide) (by cbv) (by cbv) ?_
  conv => cbv
  obtain ⟨xa, hxa⟩ : ∃ x, x = rgL r a := ⟨_, rfl⟩
  obtain ⟨z, hz⟩ : ∃ z, z = sumF 10 xa (w32 imm) := ⟨_, rfl⟩
  rw [← hxa] at hr' hx
  rw [← hz] at hr'
  refine sum_q10 ?_
  conv => cbv
  refine QCall.of_call (.i .u32 (.ex xa)) rfl (into I11ok 6 ?_) ?_
  · conv => cbv
    refine ⟨inR.mk (by omega) (by omega), nLt.mk (by simp only [leafs]; omega), ?_⟩
    show xa = gi r (toN a)
    rw [hxa, giR]
  conv => cbv
  refine clo_10 hx (by show U32 (convI .u32 imm); rw [conv_imm]; exact hi) (by show z = sumF 10 xa (convI .u32 imm); rw [conv_imm]; exact hz) ?_
  conv => cbv
  repeat (first | refine And.intro (inR.mk (by omega) (by omega)) ?_ | refine And.intro (nLt.mk (by simp only [leafs]; omega)) ?_)
  conv => cbv
  refine (LeOut.mk' [0, 1, 2, 3] (by decide) rfl id ?_ ?_).two
  · conv => cbv
    exact ⟨by rw [hcyc']; show _ = addI .i64 cyc 1; rw [addI_eq]; rfl, trivial⟩
  · conv => cbv
    refine ⟨⟨?_, by rw [hpc']; exact (pc4 pc).symm, trivial⟩, trivial⟩
    show r' = setI (setI r (toN d) (z)) 0 0
    rw [setI2]
    exact hr'

theorem tail_20 (r : List Int) (pc vec back : Int) (on hdl : Bool) (bd : BoardS) (F) (w cyc d a b imm : Int) (hs : RegOk ⟨r, pc, vec, back, on, hdl⟩) (hbd : BdOk bd) (hd : 0 ≤ d ∧ d < 16) (ha : 0 ≤ a ∧ a < 16) (hb : 0 ≤ b ∧ b < 16) (hdec : DecIs w 20 d a b imm)
    (r' : List Int) (pc' : Int) (cyc' : Int) (hr' : r' = setR r d (sumF 11 (rgL r a) (w32 imm))) (hpc' : pc' = w32 (pc + 4)) (hcyc' : cyc' = i64 (cyc + 1)) : TailOk ⟨r, pc, vec, back, on, hdl⟩ bd F w cyc (.lit 0) ⟨1, cyc', 0, 0, 0, 0, false, 0, false, 0⟩ ⟨r', pc', vec, back, on, hdl⟩ bd := by
  have hx : U32 (rgL r a) := rg_ok hs a
  have hy : U32 (rgL r b) := rg_ok hs b
  have hi : U32 (w32 imm) := w32_ok imm
  refine kcode I11ok 6 ⟨[], 0⟩ tail11_chk ?_
  conv => cbv
  refine OkCall.by_spec hdec [2] (by decide) (by cbv) (by cbv) ?_
  conv => cbv
  obtain ⟨xa, hxa⟩ : ∃ x, x = rgL r a := ⟨_, rfl⟩
  obtain ⟨z, hz⟩ : ∃ z, z = sumF 11 xa (w32 imm) := ⟨_, rfl⟩
  rw [← hxa] at hr' hx
  rw [← hz] at hr'
  refine sum_q11 ?_
  conv => cbv
  refine QCall.of_call (.i .u32 (.ex xa)) rfl (into I11ok 6 ?_) ?_
  · conv => cbv
    refine ⟨inR.mk (by omega) (by omega), nLt.mk (by simp only [leafs]; omega), ?_⟩
    show xa = gi r (toN a)
    rw [hxa, giR]
  conv => cbv
  refine clo_11 hx (by show U32 (convI .u32 imm); rw [conv_imm]; exact hi) (by show z = sumF 11 xa (convI .u32 imm); rw [conv_imm]; exact hz) ?_
  conv => cbv
  repeat (first | refine And.intro (inR.mk (by omega) (by omega)) ?_ | refine And.intro (nLt.mk (by simp only [leafs]; omega)) ?_)
  conv => cbv
  refine (LeOut.mk' [0, 1, 2, 3] (by decide) rfl id ?_ ?_).two
  · conv => cbv
    exact ⟨by rw [hcyc']; show _ = addI .i64 cyc 1; rw [addI_eq]; rfl, trivial⟩
  · conv => cbv
    refine ⟨⟨?_, by rw [hpc']; exact (pc4 pc).symm, trivial⟩, trivial⟩
    show r' = setI (setI r (toN d) (z)) 0 0
    rw [setI2]
    exact hr'

theorem tail_21 (r : List Int) (pc vec back : Int) (on hdl : Bool) (bd : BoardS) (F) (w cyc d a b imm : Int) (hs : RegOk ⟨r, pc, vec, back, on, hdl⟩) (hbd : BdOk bd) (hd : 0 ≤ d ∧ d < 16) (ha : 0 ≤ a ∧ a < 16) (hb : 0 ≤ b ∧ b < 16) (hdec : DecIs w 21 d a b imm)
    (r' : List Int) (pc' : Int) (cyc' : Int) (hr' : r' = setR r d (sumF 12 (rgL r a) (w32 imm))) (hpc' : pc' = w32 (pc + 4)) (hcyc' : cyc' = i64 (cyc + 1)) : TailOk ⟨r, pc, vec, back, on, hdl⟩ bd F w cyc (.lit 0) ⟨1, cyc', 0, 0, 0, 0, false, 0, false, 0⟩ ⟨r', pc', vec, back, on, hdl⟩ bd := by
  have hx : U32 (rgL r a) := rg_ok hs a
  have hy : U32 (rgL r b) := rg_ok hs b
  have hi : U32 (w32 imm) := w32_ok imm
  refine kcode I11ok 6 ⟨[], 0⟩ tail11_chk ?_
  conv => cbv
  refine OkCall.by_spec hdec [2] (by decide) (by cbv) (by cbv) ?_
  conv => cbv
  obtain ⟨xa, hxa⟩ : ∃ x, x = rgL r a := ⟨_, rfl⟩
  obtain ⟨z, hz⟩ : ∃ z, z = sumF 12 xa (w32 imm) := ⟨_, rfl⟩
  rw [← hxa] at hr' hx
  rw [← hz] at hr'
  refine sum_q12 ?_
  conv => cbv
  refine QCall.of_call (.i .u32 (.ex xa)) rfl (into I11ok 6 ?_) ?_
  · conv => cbv
    refine ⟨inR.mk (by omega) (by omega), nLt.mk (by simp only [leafs]; omega), ?_⟩
    show xa = gi r (toN a)
    rw [hxa, giR]
  conv => cbv
  refine clo_12 hx (by show U32 (convI .u32 imm); rw [conv_imm]; exact hi) (by show z = sumF 12 xa (convI .u32 imm); rw [conv_imm]; exact hz) ?_
  conv => cbv
  repeat (first | refine And.intro (inR.mk (by omega) (by omega)) ?_ | refine And.intro (nLt.mk (by simp only [leafs]; omega)) ?_)
  conv => cbv
  refine (LeOut.mk' [0, 1, 2, 3] (by decide) rfl id ?_ ?_).two
  · conv => cbv
    exact ⟨by rw [hcyc']; show _ = addI .i64 cyc 1; rw [addI_eq]; rfl, trivial⟩
  · conv => cbv
    refine ⟨⟨?_, by rw [hpc']; exact (pc4 pc).symm, trivial⟩, trivial⟩
    show r' = setI (setI r (toN d) (z)) 0 0
    rw [setI2]
    exact hr'

theorem tail_22 (r : List Int) (pc vec back : Int) (on hdl : Bool) (bd : BoardS) (F) (w cyc d a b imm : Int) (hs : RegOk ⟨r, pc, vec, back, on, hdl⟩) (hbd : BdOk bd) (hd : 0 ≤ d ∧ d < 16) (ha : 0 ≤ a ∧ a < 16) (hb : 0 ≤ b ∧ b < 16) (hdec : DecIs w 22 d a b imm)
    (r' : List Int) (pc' : Int) (cyc' : Int) (hr' : r' = setR r d (sumF 13 (rgL r a) (w32 imm))) (hpc' : pc' = w32 (pc + 4)) (hcyc' : cyc' = i64 (cyc + 1)) : TailOk ⟨r, pc, vec, back, on, hdl⟩ bd F w cyc (.lit 0) ⟨1, cyc', 0, 0, 0, 0, false, 0, false, 0⟩ ⟨r', pc', vec, back, on, hdl⟩ bd := by
  have hx : U32 (rgL r a) := rg_ok hs a
  have hy : U32 (rgL r b) := rg_ok hs b
  have hi : U32 (w32 imm) := w32_ok imm
  refine kcode I11ok 6 ⟨[], 0⟩ tail11_chk ?_
  conv => cbv
  refine OkCall.by_spec hdec [2] (by decide) (by cbv) (by cbv) ?_
  conv => cbv
  obtain ⟨xa, hxa⟩ : ∃ x, x = rgL r a := ⟨_, rfl⟩
  obtain ⟨z, hz⟩ : ∃ z, z = sumF 13 xa (w32 imm) := ⟨_, rfl⟩
  rw [← hxa] at hr' hx
  rw [← hz] at hr'
  refine sum_q13 ?_
  conv => cbv
  refine QCall.of_call (.i .u32 (.ex xa)) rfl (into I11ok 6 ?_) ?_
  · conv => cbv
    refine ⟨inR.mk (by omega) (by omega), nLt.mk (by simp only [leafs]; omega), ?_⟩
    show xa = gi r (toN a)
    rw [hxa, giR]
  conv => cbv
  refine clo_13 hx (by show U32 (convI .u32 imm); rw [conv_imm]; exact hi) (by show z = sumF 13 xa (convI .u32 imm); rw [conv_imm]; exact hz) ?_
  conv => cbv
  repeat (first | refine And.intro (inR.mk (by omega) (by omega)) ?_ | refine And.intro (nLt.mk (by simp only [leafs]; omega)) ?_)
  conv => cbv
  refine (LeOut.mk' [0, 1, 2, 3] (by decide) rfl id ?_ ?_).two
  · conv => cbv
    exact ⟨by rw [hcyc']; show _ = addI .i64 cyc 1; rw [addI_eq]; rfl, trivial⟩
  · conv => cbv
    refine ⟨⟨?_, by rw [hpc']; exact (pc4 pc).symm, trivial⟩, trivial⟩
    show r' = setI (setI r (toN d) (z)) 0 0
    rw [setI2]
    exact hr'

theorem tail_23 (r : List Int) (pc vec back : Int) (on hdl : Bool) (bd : BoardS) (F) (w cyc d a b imm : Int) (hs : RegOk ⟨r, pc, vec, back, on, hdl⟩) (hbd : BdOk bd) (hd : 0 ≤ d ∧ d < 16) (ha : 0 ≤ a ∧ a < 16) (hb : 0 ≤ b ∧ b < 16) (hdec : DecIs w 23 d a b imm)
    (r' : List Int) (pc' : Int) (cyc' : Int) (hr' : r' = setR r d (w32 (imm * 16384))) (hpc' : pc' = w32 (pc + 4)) (hcyc' : cyc' = i64 (cyc + 1)) : TailOk ⟨r, pc, vec, back, on, hdl⟩ bd F w cyc (.lit 0) ⟨1, cyc', 0, 0, 0, 0, false, 0, false, 0⟩ ⟨r', pc', vec, back, on, hdl⟩ bd := by
  have hx : U32 (rgL r a) := rg_ok hs a
  have hy : U32 (rgL r b) := rg_ok hs b
  have hi : U32 (w32 imm) := w32_ok imm
  refine kcode I11ok 6 ⟨[], 0⟩ tail11_chk ?_
  conv => cbv
  refine OkCall.by_spec hdec [2] (by decide) (by cbv) (by cbv) ?_
  conv => cbv
  repeat (first | refine And.intro (inR.mk (by omega) (by omega)) ?_ | refine And.intro (nLt.mk (by simp only [leafs]; omega)) ?_)
  conv => cbv
  refine (LeOut.mk' [0, 1, 2, 3] (by decide) rfl id ?_ ?_).two
  · conv => cbv
    exact ⟨by rw [hcyc']; show _ = addI .i64 cyc 1; rw [addI_eq]; rfl, trivial⟩
  · conv => cbv
    refine ⟨⟨?_, by rw [hpc']; exact (pc4 pc).symm, trivial⟩, trivial⟩
    show r' = setI (setI r (toN d) (shlI .u32 (convI .u32 imm) 14)) 0 0
    rw [setI2, lui_v]
    exact hr'

theorem tail_24 (r : List Int) (pc vec back : Int) (on hdl : Bool) (bd : BoardS) (F) (w cyc d a b imm : Int) (hs : RegOk ⟨r, pc, vec, back, on, hdl⟩) (hbd : BdOk bd) (hd : 0 ≤ d ∧ d < 16) (ha : 0 ≤ a ∧ a < 16) (hb : 0 ≤ b ∧ b < 16) (hf : pick1 bd.faults bd.nf = 0) (hdec : DecIs w 24 d a b imm)
    (at_ : Int) (bd' : BoardS) (f0 : Int) (c0 : Int) (c2 : Int) (v0 : Int) (v' : Int) (r' : List Int) (pc' : Int) (hat_ : at_ = w32 (rgL r a + imm)) (hbd' : bd' = loadS bd at_ 1) (hf0 : f0 = pick1 bd.faults bd.nf) (hc0 : c0 = pick1 bd.cycles bd.nc) (hc2 : c2 = i64 (i64 (cyc + 1) + c0)) (hv0 : v0 = pick1 bd.values bd.nv) (hv' : v' = extF 24 v0) (hr' : r' = setR r d v') (hpc' : pc' = w32 (pc + 4)) : TailOk ⟨r, pc, vec, back, on, hdl⟩ bd F w cyc (.lit 0) ⟨1, c2, 0, 0, at_, 0, true, v', false, 0⟩ ⟨r', pc', vec, back, on, hdl⟩ bd' := by
  have hx : U32 (rgL r a) := rg_ok hs a
  have hy : U32 (rgL r b) := rg_ok hs b
  have hi : U32 (w32 imm) := w32_ok imm
  refine kcode I11ok 6 ⟨[], 0⟩ tail11_chk ?_
  conv => cbv
  refine OkCall.by_spec hdec [2] (by decide) (by cbv) (by cbv) ?_
  conv => cbv
  rw [← hf0] at hf
  obtain ⟨xa, hxa⟩ : ∃ x, x = rgL r a := ⟨_, rfl⟩
  rw [← hxa] at hx hat_
  refine QCall.of_call (.i .u32 (.ex xa)) rfl (into I11ok 6 ?_) ?_
  · conv => cbv
    refine ⟨inR.mk (by omega) (by omega), nLt.mk (by simp only [leafs]; omega), ?_⟩
    show xa = gi r (toN a)
    rw [hxa, giR]
  conv => cbv
  have hsp := load_spec bd at_ 1 hbd.bnd hbd.log
  rw [← hbd', ← hv0, ← hc0, ← hf0] at hsp
  have hU : U32 v0 := by rw [hv0]; exact pick1_ok hbd
  refine OkCall.by_spec hsp [1] (by decide) ?_ (by cbv) ?_
  · conv => cbv
    exact ⟨by rw [hat_]; exact (adr xa imm).symm, trivial⟩
  conv => cbv
  refine Br.no (by simp only [leafs]; rw [hf]; rfl) ?_
  conv => cbv
  repeat (first | refine And.intro (inR.mk (by omega) (by omega)) ?_ | refine And.intro (nLt.mk (by simp only [leafs]; omega)) ?_)
  conv => cbv
  refine (LeOut.mk' [0, 1, 2, 3] (by decide) rfl id ?_ ?_).two
  · conv => cbv
    exact ⟨by rw [hc2]; show _ = addI .i64 (addI .i64 cyc 1) c0; rw [addI_eq, addI_eq]; rfl, by rw [hat_]; exact (adr xa imm).symm, by rw [hv']; exact (ext_24 hU).symm, trivial⟩
  · conv => cbv
    refine ⟨⟨?_, by rw [hpc']; exact (pc4 pc).symm, trivial⟩, trivial⟩
    show r' = setI (setI r (toN d) (convI .u32 (shrI .i32 (convI .i32 (shlI .u32 (andI .u32 v0 255) 24)) 24))) 0 0
    rw [setI2, ext_24 hU, ← hv']
    exact hr'
theorem tail_24f (r : List Int) (pc vec back : Int) (on hdl : Bool) (bd : BoardS) (F) (w cyc d a b imm : Int) (hs : RegOk ⟨r, pc, vec, back, on, hdl⟩) (hbd : BdOk bd) (hd : 0 ≤ d ∧ d < 16) (ha : 0 ≤ a ∧ a < 16) (hb : 0 ≤ b ∧ b < 16) (hf : pick1 bd.faults bd.nf ≠ 0) (hdec : DecIs w 24 d a b imm)
    (at_ : Int) (bd' : BoardS) (f0 : Int) (c0 : Int) (c2 : Int) (v0 : Int) (v' : Int) (hat_ : at_ = w32 (rgL r a + imm)) (hbd' : bd' = loadS bd at_ 1) (hf0 : f0 = pick1 bd.faults bd.nf) (hc0 : c0 = pick1 bd.cycles bd.nc) (hc2 : c2 = i64 (i64 (cyc + 1) + c0)) (hv0 : v0 = pick1 bd.values bd.nv) (hv' : v' = extF 24 v0) : TailOk ⟨r, pc, vec, back, on, hdl⟩ bd F w cyc (.lit 0) ⟨3, c2, 0, f0, at_, 0, false, 0, false, 0⟩ ⟨r, pc, vec, back, on, hdl⟩ bd' := by
  have hx : U32 (rgL r a) := rg_ok hs a
  have hy : U32 (rgL r b) := rg_ok hs b
  have hi : U32 (w32 imm) := w32_ok imm
  refine kcode I11ok 6 ⟨[], 0⟩ tail11_chk ?_
  conv => cbv
  refine OkCall.by_spec hdec [2] (by decide) (by cbv) (by cbv) ?_
  conv => cbv
  rw [← hf0] at hf
  obtain ⟨xa, hxa⟩ : ∃ x, x = rgL r a := ⟨_, rfl⟩
  rw [← hxa] at hx hat_
  refine QCall.of_call (.i .u32 (.ex xa)) rfl (into I11ok 6 ?_) ?_
  · conv => cbv
    refine ⟨inR.mk (by omega) (by omega), nLt.mk (by simp only [leafs]; omega), ?_⟩
    show xa = gi r (toN a)
    rw [hxa, giR]
  conv => cbv
  have hsp := load_spec bd at_ 1 hbd.bnd hbd.log
  rw [← hbd', ← hv0, ← hc0, ← hf0] at hsp
  have hU : U32 v0 := by rw [hv0]; exact pick1_ok hbd
  refine OkCall.by_spec hsp [1] (by decide) ?_ (by cbv) ?_
  · conv => cbv
    exact ⟨by rw [hat_]; exact (adr xa imm).symm, trivial⟩
  conv => cbv
  refine Br.yes (by simp only [leafs]; simpa using hf) ?_
  conv => cbv
  repeat (first | refine And.intro (inR.mk (by omega) (by omega)) ?_ | refine And.intro (nLt.mk (by simp only [leafs]; omega)) ?_)
  conv => cbv
  refine (LeOut.mk' [0, 1, 2, 3] (by decide) rfl id ?_ ?_).two
  · conv => cbv
    exact ⟨by rw [hc2]; show _ = addI .i64 (addI .i64 cyc 1) c0; rw [addI_eq, addI_eq]; rfl, by rw [hat_]; exact (adr xa imm).symm, trivial⟩
  · conv => cbv
    exact ⟨⟨(pcback hs.pc).symm, trivial⟩, trivial⟩

theorem tail_25 (r : List Int) (pc vec back : Int) (on hdl : Bool) (bd : BoardS) (F) (w cyc d a b imm : Int) (hs : RegOk ⟨r, pc, vec, back, on, hdl⟩) (hbd : BdOk bd) (hd : 0 ≤ d ∧ d < 16) (ha : 0 ≤ a ∧ a < 16) (hb : 0 ≤ b ∧ b < 16) (hf : pick1 bd.faults bd.nf = 0) (hdec : DecIs w 25 d a b imm)
    (at_ : Int) (bd' : BoardS) (f0 : Int) (c0 : Int) (c2 : Int) (v0 : Int) (v' : Int) (r' : List Int) (pc' : Int) (hat_ : at_ = w32 (rgL r a + imm)) (hbd' : bd' = loadS bd at_ 1) (hf0 : f0 = pick1 bd.faults bd.nf) (hc0 : c0 = pick1 bd.cycles bd.nc) (hc2 : c2 = i64 (i64 (cyc + 1) + c0)) (hv0 : v0 = pick1 bd.values bd.nv) (hv' : v' = extF 25 v0) (hr' : r' = setR r d v') (hpc' : pc' = w32 (pc + 4)) : TailOk ⟨r, pc, vec, back, on, hdl⟩ bd F w cyc (.lit 0) ⟨1, c2, 0, 0, at_, 0, true, v', false, 0⟩ ⟨r', pc', vec, back, on, hdl⟩ bd' := by
  have hx : U32 (rgL r a) := rg_ok hs a
  have hy : U32 (rgL r b) := rg_ok hs b
  have hi : U32 (w32 imm) := w32_ok imm
  refine kcode I11ok 6 ⟨[], 0⟩ tail11_chk ?_
  conv => cbv
  refine OkCall.by_spec hdec [2] (by decide) (by cbv) (by cbv) ?_
  conv => cbv
  rw [← hf0] at hf
  obtain ⟨xa, hxa⟩ : ∃ x, x = rgL r a := ⟨_, rfl⟩
  rw [← hxa] at hx hat_
  refine QCall.of_call (.i .u32 (.ex xa)) rfl (into I11ok 6 ?_) ?_
  · conv => cbv
    refine ⟨inR.mk (by omega) (by omega), nLt.mk (by simp only [leafs]; omega), ?_⟩
    show xa = gi r (toN a)
    rw [hxa, giR]
  conv => cbv
  have hsp := load_spec bd at_ 1 hbd.bnd hbd.log
  rw [← hbd', ← hv0, ← hc0, ← hf0] at hsp
  have hU : U32 v0 := by rw [hv0]; exact pick1_ok hbd
  refine OkCall.by_spec hsp [1] (by decide) ?_ (by cbv) ?_
  · conv => cbv
    exact ⟨by rw [hat_]; exact (adr xa imm).symm, trivial⟩
  conv => cbv
  refine Br.no (by simp only [leafs]; rw [hf]; rfl) ?_
  conv => cbv
  repeat (first | refine And.intro (inR.mk (by omega) (by omega)) ?_ | refine And.intro (nLt.mk (by simp only [leafs]; omega)) ?_)
  conv => cbv
  refine (LeOut.mk' [0, 1, 2, 3] (by decide) rfl id ?_ ?_).two
  · conv => cbv
    exact ⟨by rw [hc2]; show _ = addI .i64 (addI .i64 cyc 1) c0; rw [addI_eq, addI_eq]; rfl, by rw [hat_]; exact (adr xa imm).symm, by rw [hv']; exact (ext_25 hU).symm, trivial⟩
  · conv => cbv
    refine ⟨⟨?_, by rw [hpc']; exact (pc4 pc).symm, trivial⟩, trivial⟩
    show r' = setI (setI r (toN d) (convI .u32 (shrI .i32 (convI .i32 (shlI .u32 (andI .u32 v0 255) 0)) 0))) 0 0
    rw [setI2, ext_25 hU, ← hv']
    exact hr'
theorem tail_25f (r : List Int) (pc vec back : Int) (on hdl : Bool) (bd : BoardS) (F) (w cyc d a b imm : Int) (hs : RegOk ⟨r, pc, vec, back, on, hdl⟩) (hbd : BdOk bd) (hd : 0 ≤ d ∧ d < 16) (ha : 0 ≤ a ∧ a < 16) (hb : 0 ≤ b ∧ b < 16) (hf : pick1 bd.faults bd.nf ≠ 0) (hdec : DecIs w 25 d a b imm)
    (at_ : Int) (bd' : BoardS) (f0 : Int) (c0 : Int) (c2 : Int) (v0 : Int) (v' : Int) (hat_ : at_ = w32 (rgL r a + imm)) (hbd' : bd' = loadS bd at_ 1) (hf0 : f0 = pick1 bd.faults bd.nf) (hc0 : c0 = pick1 bd.cycles bd.nc) (hc2 : c2 = i64 (i64 (cyc + 1) + c0)) (hv0 : v0 = pick1 bd.values bd.nv) (hv' : v' = extF 25 v0) : TailOk ⟨r, pc, vec, back, on, hdl⟩ bd F w cyc (.lit 0) ⟨3, c2, 0, f0, at_, 0, false, 0, false, 0⟩ ⟨r, pc, vec, back, on, hdl⟩ bd' := by
  have hx : U32 (rgL r a) := rg_ok hs a
  have hy : U32 (rgL r b) := rg_ok hs b
  have hi : U32 (w32 imm) := w32_ok imm
  refine kcode I11ok 6 ⟨[], 0⟩ tail11_chk ?_
  conv => cbv
  refine OkCall.by_spec hdec [2] (by decide) (by cbv) (by cbv) ?_
  conv => cbv
  rw [← hf0] at hf
  obtain ⟨xa, hxa⟩ : ∃ x, x = rgL r a := ⟨_, rfl⟩
  rw [← hxa] at hx hat_
  refine QCall.of_call (.i .u32 (.ex xa)) rfl (into I11ok 6 ?_) ?_
  · conv => cbv
    refine ⟨inR.mk (by omega) (by omega), nLt.mk (by simp only [leafs]; omega), ?_⟩
    show xa = gi r (toN a)
    rw [hxa, giR]
  conv => cbv
  have hsp := load_spec bd at_ 1 hbd.bnd hbd.log
  rw [← hbd', ← hv0, ← hc0, ← hf0] at hsp
  have hU : U32 v0 := by rw [hv0]; exact pick1_ok hbd
  refine OkCall.by_spec hsp [1] (by decide) ?_ (by cbv) ?_
  · conv => cbv
    exact ⟨by rw [hat_]; exact (adr xa imm).symm, trivial⟩
  conv => cbv
  refine Br.yes (by simp only [leafs]; simpa using hf) ?_
  conv => cbv
  repeat (first | refine And.intro (inR.mk (by omega) (by omega)) ?_ | refine And.intro (nLt.mk (by simp only [leafs]; omega)) ?_)
  conv => cbv
  refine (LeOut.mk' [0, 1, 2, 3] (by decide) rfl id ?_ ?_).two
  · conv => cbv
    exact ⟨by rw [hc2]; show _ = addI .i64 (addI .i64 cyc 1) c0; rw [addI_eq, addI_eq]; rfl, by rw [hat_]; exact (adr xa imm).symm, trivial⟩
  · conv => cbv
    exact ⟨⟨(pcback hs.pc).symm, trivial⟩, trivial⟩

end Go.Proofs.YtkljgpepogkgdaaDoor
