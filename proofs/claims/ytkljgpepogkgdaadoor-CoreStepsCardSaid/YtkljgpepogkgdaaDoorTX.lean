/-
  Merged: TA TB.
-/
import Derived.Test.YtkljgpepogkgdaaDoorRM
set_option linter.unusedVariables false
set_option linter.unusedSimpArgs false
namespace Go.Proofs.YtkljgpepogkgdaaDoor
open Go Go.Vex
set_option maxRecDepth 20000
set_option maxHeartbeats 4000000
theorem rtail_1 (r : List Int) (pc vec back : Int) (on hdl : Bool) (bd : BoardS) (F) (w cyc x y z n : Int) (hs : RegOk ⟨r, pc, vec, back, on, hdl⟩) (hz0 : r.set 0 0 = r) (hbd : BdOk bd) (hx : 0 ≤ x ∧ x < 16) (hy : 0 ≤ y ∧ y < 16) (hz : 0 ≤ z ∧ z < 16) (hap : ApIs w (.lit 0) x y z n)
    (r' : List Int) (pc' : Int) (cyc' : Int) (hr' : r' = setR r x (sumF 1 (rgL r y) (rgL r z))) (hpc' : pc' = w32 (pc + 4)) (hcyc' : cyc' = i64 (cyc + 1)) : RTailOk ⟨r, pc, vec, back, on, hdl⟩ bd F w cyc (.lit 0) ⟨1, cyc', 0, 0, 0, 0, false, 0, false, 0⟩ ⟨r', pc', vec, back, on, hdl⟩ bd := by
  refine kcode I13ok 6 ⟨[], 0⟩ tail13_chk ?_
  conv => cbv
  refine OkCall.by_spec hap [] (by decide) (by cbv) trivial ?_
  conv => cbv
  repeat (first | refine And.intro (inR.mk (by omega) (by omega)) ?_ | refine And.intro (nLt.mk (by simp only [leafs]; omega)) ?_)
  conv => cbv
  obtain ⟨xa, hexa⟩ : ∃ v, gi r (toN y) = v := ⟨_, rfl⟩
  have hgxa := hexa
  rw [giR] at hgxa
  have hUxa : U32 xa := by rw [← hgxa]; exact rg_ok hs y
  obtain ⟨xb, hexb⟩ : ∃ v, gi r (toN z) = v := ⟨_, rfl⟩
  have hgxb := hexb
  rw [giR] at hgxb
  have hUxb : U32 xb := by rw [← hgxb]; exact rg_ok hs z
  show QCall kit 34 [.i .i64 (.lit 0), .i .u32 (.ex (gi r (toN y))), .i .u32 (.ex (gi r (toN z)))] _ _
  rw [hexa, hexb]
  rw [hgxa, hgxb] at hr'
  generalize hv : sumF 1 xa xb = v at hr'
  refine rsum_1 hUxa hUxb hv.symm ?_
  conv => cbv
  refine Br.mk (fun hc => ?_) (fun hc => ?_)
  · replace hc : notB (eqI x 0) = true := hc
    rw [notB_eq, eqI_eq, Bool.not_eq_true', beq_eq_false_iff_ne] at hc
    conv => cbv
    repeat (first | refine And.intro (inR.mk (by omega) (by omega)) ?_ | refine And.intro (nLt.mk (by simp only [leafs]; omega)) ?_)
    conv => cbv
    refine (LeOut.mk' [0, 1, 2] (by decide) rfl id ?_ ?_).two
    · conv => cbv
      exact ⟨by rw [hcyc']; show _ = addI .i64 cyc 1; rw [addI_eq]; rfl, trivial⟩
    · conv => cbv
      refine ⟨⟨?_, by rw [hpc']; exact (pc4 pc).symm, trivial⟩, trivial⟩
      show r' = setI r (toN x) (v)
      rw [setI_eq, toN_eq, hr', setR_ne hz0 hx.1 hc]
  · replace hc : notB (eqI x 0) = false := hc
    rw [notB_eq, eqI_eq, Bool.not_eq_false', beq_iff_eq] at hc
    conv => cbv
    repeat (first | refine And.intro (inR.mk (by omega) (by omega)) ?_ | refine And.intro (nLt.mk (by simp only [leafs]; omega)) ?_)
    conv => cbv
    refine (LeOut.mk' [0, 1, 2] (by decide) rfl id ?_ ?_).two
    · conv => cbv
      exact ⟨by rw [hcyc']; show _ = addI .i64 cyc 1; rw [addI_eq]; rfl, trivial⟩
    · conv => cbv
      refine ⟨⟨?_, by rw [hpc']; exact (pc4 pc).symm, trivial⟩, trivial⟩
      rw [hr', hc, setR_zero hz0]

theorem rtail_2 (r : List Int) (pc vec back : Int) (on hdl : Bool) (bd : BoardS) (F) (w cyc x y z n : Int) (hs : RegOk ⟨r, pc, vec, back, on, hdl⟩) (hz0 : r.set 0 0 = r) (hbd : BdOk bd) (hx : 0 ≤ x ∧ x < 16) (hy : 0 ≤ y ∧ y < 16) (hz : 0 ≤ z ∧ z < 16) (hap : ApIs w (.lit 1) x y z n)
    (r' : List Int) (pc' : Int) (cyc' : Int) (hr' : r' = setR r x (sumF 2 (rgL r y) (rgL r z))) (hpc' : pc' = w32 (pc + 4)) (hcyc' : cyc' = i64 (cyc + 1)) : RTailOk ⟨r, pc, vec, back, on, hdl⟩ bd F w cyc (.lit 0) ⟨1, cyc', 0, 0, 0, 0, false, 0, false, 0⟩ ⟨r', pc', vec, back, on, hdl⟩ bd := by
  refine kcode I13ok 6 ⟨[], 0⟩ tail13_chk ?_
  conv => cbv
  refine OkCall.by_spec hap [] (by decide) (by cbv) trivial ?_
  conv => cbv
  repeat (first | refine And.intro (inR.mk (by omega) (by omega)) ?_ | refine And.intro (nLt.mk (by simp only [leafs]; omega)) ?_)
  conv => cbv
  obtain ⟨xa, hexa⟩ : ∃ v, gi r (toN y) = v := ⟨_, rfl⟩
  have hgxa := hexa
  rw [giR] at hgxa
  have hUxa : U32 xa := by rw [← hgxa]; exact rg_ok hs y
  obtain ⟨xb, hexb⟩ : ∃ v, gi r (toN z) = v := ⟨_, rfl⟩
  have hgxb := hexb
  rw [giR] at hgxb
  have hUxb : U32 xb := by rw [← hgxb]; exact rg_ok hs z
  show QCall kit 34 [.i .i64 (.lit 1), .i .u32 (.ex (gi r (toN y))), .i .u32 (.ex (gi r (toN z)))] _ _
  rw [hexa, hexb]
  rw [hgxa, hgxb] at hr'
  generalize hv : sumF 2 xa xb = v at hr'
  refine rsum_2 hUxa hUxb hv.symm ?_
  conv => cbv
  refine Br.mk (fun hc => ?_) (fun hc => ?_)
  · replace hc : notB (eqI x 0) = true := hc
    rw [notB_eq, eqI_eq, Bool.not_eq_true', beq_eq_false_iff_ne] at hc
    conv => cbv
    repeat (first | refine And.intro (inR.mk (by omega) (by omega)) ?_ | refine And.intro (nLt.mk (by simp only [leafs]; omega)) ?_)
    conv => cbv
    refine (LeOut.mk' [0, 1, 2] (by decide) rfl id ?_ ?_).two
    · conv => cbv
      exact ⟨by rw [hcyc']; show _ = addI .i64 cyc 1; rw [addI_eq]; rfl, trivial⟩
    · conv => cbv
      refine ⟨⟨?_, by rw [hpc']; exact (pc4 pc).symm, trivial⟩, trivial⟩
      show r' = setI r (toN x) (v)
      rw [setI_eq, toN_eq, hr', setR_ne hz0 hx.1 hc]
  · replace hc : notB (eqI x 0) = false := hc
    rw [notB_eq, eqI_eq, Bool.not_eq_false', beq_iff_eq] at hc
    conv => cbv
    repeat (first | refine And.intro (inR.mk (by omega) (by omega)) ?_ | refine And.intro (nLt.mk (by simp only [leafs]; omega)) ?_)
    conv => cbv
    refine (LeOut.mk' [0, 1, 2] (by decide) rfl id ?_ ?_).two
    · conv => cbv
      exact ⟨by rw [hcyc']; show _ = addI .i64 cyc 1; rw [addI_eq]; rfl, trivial⟩
    · conv => cbv
      refine ⟨⟨?_, by rw [hpc']; exact (pc4 pc).symm, trivial⟩, trivial⟩
      rw [hr', hc, setR_zero hz0]

theorem rtail_3 (r : List Int) (pc vec back : Int) (on hdl : Bool) (bd : BoardS) (F) (w cyc x y z n : Int) (hs : RegOk ⟨r, pc, vec, back, on, hdl⟩) (hz0 : r.set 0 0 = r) (hbd : BdOk bd) (hx : 0 ≤ x ∧ x < 16) (hy : 0 ≤ y ∧ y < 16) (hz : 0 ≤ z ∧ z < 16) (hap : ApIs w (.lit 2) x y z n)
    (r' : List Int) (pc' : Int) (cyc' : Int) (hr' : r' = setR r x (sumF 3 (rgL r y) (rgL r z))) (hpc' : pc' = w32 (pc + 4)) (hcyc' : cyc' = i64 (cyc + 1)) : RTailOk ⟨r, pc, vec, back, on, hdl⟩ bd F w cyc (.lit 0) ⟨1, cyc', 0, 0, 0, 0, false, 0, false, 0⟩ ⟨r', pc', vec, back, on, hdl⟩ bd := by
  refine kcode I13ok 6 ⟨[], 0⟩ tail13_chk ?_
  conv => cbv
  refine OkCall.by_spec hap [] (by decide) (by cbv) trivial ?_
  conv => cbv
  repeat (first | refine And.intro (inR.mk (by omega) (by omega)) ?_ | refine And.intro (nLt.mk (by simp only [leafs]; omega)) ?_)
  conv => cbv
  obtain ⟨xa, hexa⟩ : ∃ v, gi r (toN y) = v := ⟨_, rfl⟩
  have hgxa := hexa
  rw [giR] at hgxa
  have hUxa : U32 xa := by rw [← hgxa]; exact rg_ok hs y
  obtain ⟨xb, hexb⟩ : ∃ v, gi r (toN z) = v := ⟨_, rfl⟩
  have hgxb := hexb
  rw [giR] at hgxb
  have hUxb : U32 xb := by rw [← hgxb]; exact rg_ok hs z
  show QCall kit 34 [.i .i64 (.lit 2), .i .u32 (.ex (gi r (toN y))), .i .u32 (.ex (gi r (toN z)))] _ _
  rw [hexa, hexb]
  rw [hgxa, hgxb] at hr'
  generalize hv : sumF 3 xa xb = v at hr'
  refine rsum_3 hUxa hUxb hv.symm ?_
  conv => cbv
  refine Br.mk (fun hc => ?_) (fun hc => ?_)
  · replace hc : notB (eqI x 0) = true := hc
    rw [notB_eq, eqI_eq, Bool.not_eq_true', beq_eq_false_iff_ne] at hc
    conv => cbv
    repeat (first | refine And.intro (inR.mk (by omega) (by omega)) ?_ | refine And.intro (nLt.mk (by simp only [leafs]; omega)) ?_)
    conv => cbv
    refine (LeOut.mk' [0, 1, 2] (by decide) rfl id ?_ ?_).two
    · conv => cbv
      exact ⟨by rw [hcyc']; show _ = addI .i64 cyc 1; rw [addI_eq]; rfl, trivial⟩
    · conv => cbv
      refine ⟨⟨?_, by rw [hpc']; exact (pc4 pc).symm, trivial⟩, trivial⟩
      show r' = setI r (toN x) (v)
      rw [setI_eq, toN_eq, hr', setR_ne hz0 hx.1 hc]
  · replace hc : notB (eqI x 0) = false := hc
    rw [notB_eq, eqI_eq, Bool.not_eq_false', beq_iff_eq] at hc
    conv => cbv
    repeat (first | refine And.intro (inR.mk (by omega) (by omega)) ?_ | refine And.intro (nLt.mk (by simp only [leafs]; omega)) ?_)
    conv => cbv
    refine (LeOut.mk' [0, 1, 2] (by decide) rfl id ?_ ?_).two
    · conv => cbv
      exact ⟨by rw [hcyc']; show _ = addI .i64 cyc 1; rw [addI_eq]; rfl, trivial⟩
    · conv => cbv
      refine ⟨⟨?_, by rw [hpc']; exact (pc4 pc).symm, trivial⟩, trivial⟩
      rw [hr', hc, setR_zero hz0]

theorem rtail_4 (r : List Int) (pc vec back : Int) (on hdl : Bool) (bd : BoardS) (F) (w cyc x y z n : Int) (hs : RegOk ⟨r, pc, vec, back, on, hdl⟩) (hz0 : r.set 0 0 = r) (hbd : BdOk bd) (hx : 0 ≤ x ∧ x < 16) (hy : 0 ≤ y ∧ y < 16) (hz : 0 ≤ z ∧ z < 16) (hap : ApIs w (.lit 3) x y z n)
    (r' : List Int) (pc' : Int) (cyc' : Int) (hr' : r' = setR r x (sumF 4 (rgL r y) (rgL r z))) (hpc' : pc' = w32 (pc + 4)) (hcyc' : cyc' = i64 (cyc + 1)) : RTailOk ⟨r, pc, vec, back, on, hdl⟩ bd F w cyc (.lit 0) ⟨1, cyc', 0, 0, 0, 0, false, 0, false, 0⟩ ⟨r', pc', vec, back, on, hdl⟩ bd := by
  refine kcode I13ok 6 ⟨[], 0⟩ tail13_chk ?_
  conv => cbv
  refine OkCall.by_spec hap [] (by decide) (by cbv) trivial ?_
  conv => cbv
  repeat (first | refine And.intro (inR.mk (by omega) (by omega)) ?_ | refine And.intro (nLt.mk (by simp only [leafs]; omega)) ?_)
  conv => cbv
  obtain ⟨xa, hexa⟩ : ∃ v, gi r (toN y) = v := ⟨_, rfl⟩
  have hgxa := hexa
  rw [giR] at hgxa
  have hUxa : U32 xa := by rw [← hgxa]; exact rg_ok hs y
  obtain ⟨xb, hexb⟩ : ∃ v, gi r (toN z) = v := ⟨_, rfl⟩
  have hgxb := hexb
  rw [giR] at hgxb
  have hUxb : U32 xb := by rw [← hgxb]; exact rg_ok hs z
  show QCall kit 34 [.i .i64 (.lit 3), .i .u32 (.ex (gi r (toN y))), .i .u32 (.ex (gi r (toN z)))] _ _
  rw [hexa, hexb]
  rw [hgxa, hgxb] at hr'
  generalize hv : sumF 4 xa xb = v at hr'
  refine rsum_4 hUxa hUxb hv.symm ?_
  conv => cbv
  refine Br.mk (fun hc => ?_) (fun hc => ?_)
  · replace hc : notB (eqI x 0) = true := hc
    rw [notB_eq, eqI_eq, Bool.not_eq_true', beq_eq_false_iff_ne] at hc
    conv => cbv
    repeat (first | refine And.intro (inR.mk (by omega) (by omega)) ?_ | refine And.intro (nLt.mk (by simp only [leafs]; omega)) ?_)
    conv => cbv
    refine (LeOut.mk' [0, 1, 2] (by decide) rfl id ?_ ?_).two
    · conv => cbv
      exact ⟨by rw [hcyc']; show _ = addI .i64 cyc 1; rw [addI_eq]; rfl, trivial⟩
    · conv => cbv
      refine ⟨⟨?_, by rw [hpc']; exact (pc4 pc).symm, trivial⟩, trivial⟩
      show r' = setI r (toN x) (v)
      rw [setI_eq, toN_eq, hr', setR_ne hz0 hx.1 hc]
  · replace hc : notB (eqI x 0) = false := hc
    rw [notB_eq, eqI_eq, Bool.not_eq_false', beq_iff_eq] at hc
    conv => cbv
    repeat (first | refine And.intro (inR.mk (by omega) (by omega)) ?_ | refine And.intro (nLt.mk (by simp only [leafs]; omega)) ?_)
    conv => cbv
    refine (LeOut.mk' [0, 1, 2] (by decide) rfl id ?_ ?_).two
    · conv => cbv
      exact ⟨by rw [hcyc']; show _ = addI .i64 cyc 1; rw [addI_eq]; rfl, trivial⟩
    · conv => cbv
      refine ⟨⟨?_, by rw [hpc']; exact (pc4 pc).symm, trivial⟩, trivial⟩
      rw [hr', hc, setR_zero hz0]

theorem rtail_5 (r : List Int) (pc vec back : Int) (on hdl : Bool) (bd : BoardS) (F) (w cyc x y z n : Int) (hs : RegOk ⟨r, pc, vec, back, on, hdl⟩) (hz0 : r.set 0 0 = r) (hbd : BdOk bd) (hx : 0 ≤ x ∧ x < 16) (hy : 0 ≤ y ∧ y < 16) (hz : 0 ≤ z ∧ z < 16) (hap : ApIs w (.lit 4) x y z n)
    (r' : List Int) (pc' : Int) (cyc' : Int) (hr' : r' = setR r x (sumF 5 (rgL r y) (rgL r z))) (hpc' : pc' = w32 (pc + 4)) (hcyc' : cyc' = i64 (cyc + 1)) : RTailOk ⟨r, pc, vec, back, on, hdl⟩ bd F w cyc (.lit 0) ⟨1, cyc', 0, 0, 0, 0, false, 0, false, 0⟩ ⟨r', pc', vec, back, on, hdl⟩ bd := by
  refine kcode I13ok 6 ⟨[], 0⟩ tail13_chk ?_
  conv => cbv
  refine OkCall.by_spec hap [] (by decide) (by cbv) trivial ?_
  conv => cbv
  repeat (first | refine And.intro (inR.mk (by omega) (by omega)) ?_ | refine And.intro (nLt.mk (by simp only [leafs]; omega)) ?_)
  conv => cbv
  obtain ⟨xa, hexa⟩ : ∃ v, gi r (toN y) = v := ⟨_, rfl⟩
  have hgxa := hexa
  rw [giR] at hgxa
  have hUxa : U32 xa := by rw [← hgxa]; exact rg_ok hs y
  obtain ⟨xb, hexb⟩ : ∃ v, gi r (toN z) = v := ⟨_, rfl⟩
  have hgxb := hexb
  rw [giR] at hgxb
  have hUxb : U32 xb := by rw [← hgxb]; exact rg_ok hs z
  show QCall kit 34 [.i .i64 (.lit 4), .i .u32 (.ex (gi r (toN y))), .i .u32 (.ex (gi r (toN z)))] _ _
  rw [hexa, hexb]
  rw [hgxa, hgxb] at hr'
  generalize hv : sumF 5 xa xb = v at hr'
  refine rsum_5 hUxa hUxb hv.symm ?_
  conv => cbv
  refine Br.mk (fun hc => ?_) (fun hc => ?_)
  · replace hc : notB (eqI x 0) = true := hc
    rw [notB_eq, eqI_eq, Bool.not_eq_true', beq_eq_false_iff_ne] at hc
    conv => cbv
    repeat (first | refine And.intro (inR.mk (by omega) (by omega)) ?_ | refine And.intro (nLt.mk (by simp only [leafs]; omega)) ?_)
    conv => cbv
    refine (LeOut.mk' [0, 1, 2] (by decide) rfl id ?_ ?_).two
    · conv => cbv
      exact ⟨by rw [hcyc']; show _ = addI .i64 cyc 1; rw [addI_eq]; rfl, trivial⟩
    · conv => cbv
      refine ⟨⟨?_, by rw [hpc']; exact (pc4 pc).symm, trivial⟩, trivial⟩
      show r' = setI r (toN x) (v)
      rw [setI_eq, toN_eq, hr', setR_ne hz0 hx.1 hc]
  · replace hc : notB (eqI x 0) = false := hc
    rw [notB_eq, eqI_eq, Bool.not_eq_false', beq_iff_eq] at hc
    conv => cbv
    repeat (first | refine And.intro (inR.mk (by omega) (by omega)) ?_ | refine And.intro (nLt.mk (by simp only [leafs]; omega)) ?_)
    conv => cbv
    refine (LeOut.mk' [0, 1, 2] (by decide) rfl id ?_ ?_).two
    · conv => cbv
      exact ⟨by rw [hcyc']; show _ = addI .i64 cyc 1; rw [addI_eq]; rfl, trivial⟩
    · conv => cbv
      refine ⟨⟨?_, by rw [hpc']; exact (pc4 pc).symm, trivial⟩, trivial⟩
      rw [hr', hc, setR_zero hz0]

theorem rtail_6 (r : List Int) (pc vec back : Int) (on hdl : Bool) (bd : BoardS) (F) (w cyc x y z n : Int) (hs : RegOk ⟨r, pc, vec, back, on, hdl⟩) (hz0 : r.set 0 0 = r) (hbd : BdOk bd) (hx : 0 ≤ x ∧ x < 16) (hy : 0 ≤ y ∧ y < 16) (hz : 0 ≤ z ∧ z < 16) (hap : ApIs w (.lit 5) x y z n)
    (r' : List Int) (pc' : Int) (cyc' : Int) (hr' : r' = setR r x (sumF 6 (rgL r y) (rgL r z))) (hpc' : pc' = w32 (pc + 4)) (hcyc' : cyc' = i64 (cyc + 1)) : RTailOk ⟨r, pc, vec, back, on, hdl⟩ bd F w cyc (.lit 0) ⟨1, cyc', 0, 0, 0, 0, false, 0, false, 0⟩ ⟨r', pc', vec, back, on, hdl⟩ bd := by
  refine kcode I13ok 6 ⟨[], 0⟩ tail13_chk ?_
  conv => cbv
  refine OkCall.by_spec hap [] (by decide) (by cbv) trivial ?_
  conv => cbv
  repeat (first | refine And.intro (inR.mk (by omega) (by omega)) ?_ | refine And.intro (nLt.mk (by simp only [leafs]; omega)) ?_)
  conv => cbv
  obtain ⟨xa, hexa⟩ : ∃ v, gi r (toN y) = v := ⟨_, rfl⟩
  have hgxa := hexa
  rw [giR] at hgxa
  have hUxa : U32 xa := by rw [← hgxa]; exact rg_ok hs y
  obtain ⟨xb, hexb⟩ : ∃ v, gi r (toN z) = v := ⟨_, rfl⟩
  have hgxb := hexb
  rw [giR] at hgxb
  have hUxb : U32 xb := by rw [← hgxb]; exact rg_ok hs z
  show QCall kit 34 [.i .i64 (.lit 5), .i .u32 (.ex (gi r (toN y))), .i .u32 (.ex (gi r (toN z)))] _ _
  rw [hexa, hexb]
  rw [hgxa, hgxb] at hr'
  generalize hv : sumF 6 xa xb = v at hr'
  refine rsum_6 hUxa hUxb hv.symm ?_
  conv => cbv
  refine Br.mk (fun hc => ?_) (fun hc => ?_)
  · replace hc : notB (eqI x 0) = true := hc
    rw [notB_eq, eqI_eq, Bool.not_eq_true', beq_eq_false_iff_ne] at hc
    conv => cbv
    repeat (first | refine And.intro (inR.mk (by omega) (by omega)) ?_ | refine And.intro (nLt.mk (by simp only [leafs]; omega)) ?_)
    conv => cbv
    refine (LeOut.mk' [0, 1, 2] (by decide) rfl id ?_ ?_).two
    · conv => cbv
      exact ⟨by rw [hcyc']; show _ = addI .i64 cyc 1; rw [addI_eq]; rfl, trivial⟩
    · conv => cbv
      refine ⟨⟨?_, by rw [hpc']; exact (pc4 pc).symm, trivial⟩, trivial⟩
      show r' = setI r (toN x) (v)
      rw [setI_eq, toN_eq, hr', setR_ne hz0 hx.1 hc]
  · replace hc : notB (eqI x 0) = false := hc
    rw [notB_eq, eqI_eq, Bool.not_eq_false', beq_iff_eq] at hc
    conv => cbv
    repeat (first | refine And.intro (inR.mk (by omega) (by omega)) ?_ | refine And.intro (nLt.mk (by simp only [leafs]; omega)) ?_)
    conv => cbv
    refine (LeOut.mk' [0, 1, 2] (by decide) rfl id ?_ ?_).two
    · conv => cbv
      exact ⟨by rw [hcyc']; show _ = addI .i64 cyc 1; rw [addI_eq]; rfl, trivial⟩
    · conv => cbv
      refine ⟨⟨?_, by rw [hpc']; exact (pc4 pc).symm, trivial⟩, trivial⟩
      rw [hr', hc, setR_zero hz0]

theorem rtail_7 (r : List Int) (pc vec back : Int) (on hdl : Bool) (bd : BoardS) (F) (w cyc x y z n : Int) (hs : RegOk ⟨r, pc, vec, back, on, hdl⟩) (hz0 : r.set 0 0 = r) (hbd : BdOk bd) (hx : 0 ≤ x ∧ x < 16) (hy : 0 ≤ y ∧ y < 16) (hz : 0 ≤ z ∧ z < 16) (hap : ApIs w (.lit 6) x y z n)
    (r' : List Int) (pc' : Int) (cyc' : Int) (hr' : r' = setR r x (sumF 7 (rgL r y) (rgL r z))) (hpc' : pc' = w32 (pc + 4)) (hcyc' : cyc' = i64 (cyc + 1)) : RTailOk ⟨r, pc, vec, back, on, hdl⟩ bd F w cyc (.lit 0) ⟨1, cyc', 0, 0, 0, 0, false, 0, false, 0⟩ ⟨r', pc', vec, back, on, hdl⟩ bd := by
  refine kcode I13ok 6 ⟨[], 0⟩ tail13_chk ?_
  conv => cbv
  refine OkCall.by_spec hap [] (by decide) (by cbv) trivial ?_
  conv => cbv
  repeat (first | refine And.intro (inR.mk (by omega) (by omega)) ?_ | refine And.intro (nLt.mk (by simp only [leafs]; omega)) ?_)
  conv => cbv
  obtain ⟨xa, hexa⟩ : ∃ v, gi r (toN y) = v := ⟨_, rfl⟩
  have hgxa := hexa
  rw [giR] at hgxa
  have hUxa : U32 xa := by rw [← hgxa]; exact rg_ok hs y
  obtain ⟨xb, hexb⟩ : ∃ v, gi r (toN z) = v := ⟨_, rfl⟩
  have hgxb := hexb
  rw [giR] at hgxb
  have hUxb : U32 xb := by rw [← hgxb]; exact rg_ok hs z
  show QCall kit 34 [.i .i64 (.lit 6), .i .u32 (.ex (gi r (toN y))), .i .u32 (.ex (gi r (toN z)))] _ _
  rw [hexa, hexb]
  rw [hgxa, hgxb] at hr'
  generalize hv : sumF 7 xa xb = v at hr'
  refine rsum_7 hUxa hUxb hv.symm ?_
  conv => cbv
  refine Br.mk (fun hc => ?_) (fun hc => ?_)
  · replace hc : notB (eqI x 0) = true := hc
    rw [notB_eq, eqI_eq, Bool.not_eq_true', beq_eq_false_iff_ne] at hc
    conv => cbv
    repeat (first | refine And.intro (inR.mk (by omega) (by omega)) ?_ | refine And.intro (nLt.mk (by simp only [leafs]; omega)) ?_)
    conv => cbv
    refine (LeOut.mk' [0, 1, 2] (by decide) rfl id ?_ ?_).two
    · conv => cbv
      exact ⟨by rw [hcyc']; show _ = addI .i64 cyc 1; rw [addI_eq]; rfl, trivial⟩
    · conv => cbv
      refine ⟨⟨?_, by rw [hpc']; exact (pc4 pc).symm, trivial⟩, trivial⟩
      show r' = setI r (toN x) (v)
      rw [setI_eq, toN_eq, hr', setR_ne hz0 hx.1 hc]
  · replace hc : notB (eqI x 0) = false := hc
    rw [notB_eq, eqI_eq, Bool.not_eq_false', beq_iff_eq] at hc
    conv => cbv
    repeat (first | refine And.intro (inR.mk (by omega) (by omega)) ?_ | refine And.intro (nLt.mk (by simp only [leafs]; omega)) ?_)
    conv => cbv
    refine (LeOut.mk' [0, 1, 2] (by decide) rfl id ?_ ?_).two
    · conv => cbv
      exact ⟨by rw [hcyc']; show _ = addI .i64 cyc 1; rw [addI_eq]; rfl, trivial⟩
    · conv => cbv
      refine ⟨⟨?_, by rw [hpc']; exact (pc4 pc).symm, trivial⟩, trivial⟩
      rw [hr', hc, setR_zero hz0]

theorem rtail_8 (r : List Int) (pc vec back : Int) (on hdl : Bool) (bd : BoardS) (F) (w cyc x y z n : Int) (hs : RegOk ⟨r, pc, vec, back, on, hdl⟩) (hz0 : r.set 0 0 = r) (hbd : BdOk bd) (hx : 0 ≤ x ∧ x < 16) (hy : 0 ≤ y ∧ y < 16) (hz : 0 ≤ z ∧ z < 16) (hap : ApIs w (.lit 7) x y z n)
    (r' : List Int) (pc' : Int) (cyc' : Int) (hr' : r' = setR r x (sumF 8 (rgL r y) (rgL r z))) (hpc' : pc' = w32 (pc + 4)) (hcyc' : cyc' = i64 (cyc + 1)) : RTailOk ⟨r, pc, vec, back, on, hdl⟩ bd F w cyc (.lit 0) ⟨1, cyc', 0, 0, 0, 0, false, 0, false, 0⟩ ⟨r', pc', vec, back, on, hdl⟩ bd := by
  refine kcode I13ok 6 ⟨[], 0⟩ tail13_chk ?_
  conv => cbv
  refine OkCall.by_spec hap [] (by decide) (by cbv) trivial ?_
  conv => cbv
  repeat (first | refine And.intro (inR.mk (by omega) (by omega)) ?_ | refine And.intro (nLt.mk (by simp only [leafs]; omega)) ?_)
  conv => cbv
  obtain ⟨xa, hexa⟩ : ∃ v, gi r (toN y) = v := ⟨_, rfl⟩
  have hgxa := hexa
  rw [giR] at hgxa
  have hUxa : U32 xa := by rw [← hgxa]; exact rg_ok hs y
  obtain ⟨xb, hexb⟩ : ∃ v, gi r (toN z) = v := ⟨_, rfl⟩
  have hgxb := hexb
  rw [giR] at hgxb
  have hUxb : U32 xb := by rw [← hgxb]; exact rg_ok hs z
  show QCall kit 34 [.i .i64 (.lit 7), .i .u32 (.ex (gi r (toN y))), .i .u32 (.ex (gi r (toN z)))] _ _
  rw [hexa, hexb]
  rw [hgxa, hgxb] at hr'
  generalize hv : sumF 8 xa xb = v at hr'
  refine rsum_8 hUxa hUxb hv.symm ?_
  conv => cbv
  refine Br.mk (fun hc => ?_) (fun hc => ?_)
  · replace hc : notB (eqI x 0) = true := hc
    rw [notB_eq, eqI_eq, Bool.not_eq_true', beq_eq_false_iff_ne] at hc
    conv => cbv
    repeat (first | refine And.intro (inR.mk (by omega) (by omega)) ?_ | refine And.intro (nLt.mk (by simp only [leafs]; omega)) ?_)
    conv => cbv
    refine (LeOut.mk' [0, 1, 2] (by decide) rfl id ?_ ?_).two
    · conv => cbv
      exact ⟨by rw [hcyc']; show _ = addI .i64 cyc 1; rw [addI_eq]; rfl, trivial⟩
    · conv => cbv
      refine ⟨⟨?_, by rw [hpc']; exact (pc4 pc).symm, trivial⟩, trivial⟩
      show r' = setI r (toN x) (v)
      rw [setI_eq, toN_eq, hr', setR_ne hz0 hx.1 hc]
  · replace hc : notB (eqI x 0) = false := hc
    rw [notB_eq, eqI_eq, Bool.not_eq_false', beq_iff_eq] at hc
    conv => cbv
    repeat (first | refine And.intro (inR.mk (by omega) (by omega)) ?_ | refine And.intro (nLt.mk (by simp only [leafs]; omega)) ?_)
    conv => cbv
    refine (LeOut.mk' [0, 1, 2] (by decide) rfl id ?_ ?_).two
    · conv => cbv
      exact ⟨by rw [hcyc']; show _ = addI .i64 cyc 1; rw [addI_eq]; rfl, trivial⟩
    · conv => cbv
      refine ⟨⟨?_, by rw [hpc']; exact (pc4 pc).symm, trivial⟩, trivial⟩
      rw [hr', hc, setR_zero hz0]

theorem rtail_9 (r : List Int) (pc vec back : Int) (on hdl : Bool) (bd : BoardS) (F) (w cyc x y z n : Int) (hs : RegOk ⟨r, pc, vec, back, on, hdl⟩) (hz0 : r.set 0 0 = r) (hbd : BdOk bd) (hx : 0 ≤ x ∧ x < 16) (hy : 0 ≤ y ∧ y < 16) (hz : 0 ≤ z ∧ z < 16) (hap : ApIs w (.lit 8) x y z n)
    (r' : List Int) (pc' : Int) (cyc' : Int) (hr' : r' = setR r x (sumF 9 (rgL r y) (rgL r z))) (hpc' : pc' = w32 (pc + 4)) (hcyc' : cyc' = i64 (cyc + 1)) : RTailOk ⟨r, pc, vec, back, on, hdl⟩ bd F w cyc (.lit 0) ⟨1, cyc', 0, 0, 0, 0, false, 0, false, 0⟩ ⟨r', pc', vec, back, on, hdl⟩ bd := by
  refine kcode I13ok 6 ⟨[], 0⟩ tail13_chk ?_
  conv => cbv
  refine OkCall.by_spec hap [] (by decide) (by cbv) trivial ?_
  conv => cbv
  repeat (first | refine And.intro (inR.mk (by omega) (by omega)) ?_ | refine And.intro (nLt.mk (by simp only [leafs]; omega)) ?_)
  conv => cbv
  obtain ⟨xa, hexa⟩ : ∃ v, gi r (toN y) = v := ⟨_, rfl⟩
  have hgxa := hexa
  rw [giR] at hgxa
  have hUxa : U32 xa := by rw [← hgxa]; exact rg_ok hs y
  obtain ⟨xb, hexb⟩ : ∃ v, gi r (toN z) = v := ⟨_, rfl⟩
  have hgxb := hexb
  rw [giR] at hgxb
  have hUxb : U32 xb := by rw [← hgxb]; exact rg_ok hs z
  show QCall kit 34 [.i .i64 (.lit 8), .i .u32 (.ex (gi r (toN y))), .i .u32 (.ex (gi r (toN z)))] _ _
  rw [hexa, hexb]
  rw [hgxa, hgxb] at hr'
  generalize hv : sumF 9 xa xb = v at hr'
  refine rsum_9 hUxa hUxb hv.symm ?_
  conv => cbv
  refine Br.mk (fun hc => ?_) (fun hc => ?_)
  · replace hc : notB (eqI x 0) = true := hc
    rw [notB_eq, eqI_eq, Bool.not_eq_true', beq_eq_false_iff_ne] at hc
    conv => cbv
    repeat (first | refine And.intro (inR.mk (by omega) (by omega)) ?_ | refine And.intro (nLt.mk (by simp only [leafs]; omega)) ?_)
    conv => cbv
    refine (LeOut.mk' [0, 1, 2] (by decide) rfl id ?_ ?_).two
    · conv => cbv
      exact ⟨by rw [hcyc']; show _ = addI .i64 cyc 1; rw [addI_eq]; rfl, trivial⟩
    · conv => cbv
      refine ⟨⟨?_, by rw [hpc']; exact (pc4 pc).symm, trivial⟩, trivial⟩
      show r' = setI r (toN x) (v)
      rw [setI_eq, toN_eq, hr', setR_ne hz0 hx.1 hc]
  · replace hc : notB (eqI x 0) = false := hc
    rw [notB_eq, eqI_eq, Bool.not_eq_false', beq_iff_eq] at hc
    conv => cbv
    repeat (first | refine And.intro (inR.mk (by omega) (by omega)) ?_ | refine And.intro (nLt.mk (by simp only [leafs]; omega)) ?_)
    conv => cbv
    refine (LeOut.mk' [0, 1, 2] (by decide) rfl id ?_ ?_).two
    · conv => cbv
      exact ⟨by rw [hcyc']; show _ = addI .i64 cyc 1; rw [addI_eq]; rfl, trivial⟩
    · conv => cbv
      refine ⟨⟨?_, by rw [hpc']; exact (pc4 pc).symm, trivial⟩, trivial⟩
      rw [hr', hc, setR_zero hz0]

theorem rtail_10 (r : List Int) (pc vec back : Int) (on hdl : Bool) (bd : BoardS) (F) (w cyc x y z n : Int) (hs : RegOk ⟨r, pc, vec, back, on, hdl⟩) (hz0 : r.set 0 0 = r) (hbd : BdOk bd) (hx : 0 ≤ x ∧ x < 16) (hy : 0 ≤ y ∧ y < 16) (hz : 0 ≤ z ∧ z < 16) (hap : ApIs w (.lit 9) x y z n)
    (r' : List Int) (pc' : Int) (cyc' : Int) (hr' : r' = setR r x (sumF 10 (rgL r y) (rgL r z))) (hpc' : pc' = w32 (pc + 4)) (hcyc' : cyc' = i64 (cyc + 1)) : RTailOk ⟨r, pc, vec, back, on, hdl⟩ bd F w cyc (.lit 0) ⟨1, cyc', 0, 0, 0, 0, false, 0, false, 0⟩ ⟨r', pc', vec, back, on, hdl⟩ bd := by
  refine kcode I13ok 6 ⟨[], 0⟩ tail13_chk ?_
  conv => cbv
  refine OkCall.by_spec hap [] (by decide) (by cbv) trivial ?_
  conv => cbv
  repeat (first | refine And.intro (inR.mk (by omega) (by omega)) ?_ | refine And.intro (nLt.mk (by simp only [leafs]; omega)) ?_)
  conv => cbv
  obtain ⟨xa, hexa⟩ : ∃ v, gi r (toN y) = v := ⟨_, rfl⟩
  have hgxa := hexa
  rw [giR] at hgxa
  have hUxa : U32 xa := by rw [← hgxa]; exact rg_ok hs y
  obtain ⟨xb, hexb⟩ : ∃ v, gi r (toN z) = v := ⟨_, rfl⟩
  have hgxb := hexb
  rw [giR] at hgxb
  have hUxb : U32 xb := by rw [← hgxb]; exact rg_ok hs z
  show QCall kit 34 [.i .i64 (.lit 9), .i .u32 (.ex (gi r (toN y))), .i .u32 (.ex (gi r (toN z)))] _ _
  rw [hexa, hexb]
  rw [hgxa, hgxb] at hr'
  generalize hv : sumF 10 xa xb = v at hr'
  refine rsum_10 hUxa hUxb hv.symm ?_
  conv => cbv
  refine Br.mk (fun hc => ?_) (fun hc => ?_)
  · replace hc : notB (eqI x 0) = true := hc
    rw [notB_eq, eqI_eq, Bool.not_eq_true', beq_eq_false_iff_ne] at hc
    conv => cbv
    repeat (first | refine And.intro (inR.mk (by omega) (by omega)) ?_ | refine And.intro (nLt.mk (by simp only [leafs]; omega)) ?_)
    conv => cbv
    refine (LeOut.mk' [0, 1, 2] (by decide) rfl id ?_ ?_).two
    · conv => cbv
      exact ⟨by rw [hcyc']; show _ = addI .i64 cyc 1; rw [addI_eq]; rfl, trivial⟩
    · conv => cbv
      refine ⟨⟨?_, by rw [hpc']; exact (pc4 pc).symm, trivial⟩, trivial⟩
      show r' = setI r (toN x) (v)
      rw [setI_eq, toN_eq, hr', setR_ne hz0 hx.1 hc]
  · replace hc : notB (eqI x 0) = false := hc
    rw [notB_eq, eqI_eq, Bool.not_eq_false', beq_iff_eq] at hc
    conv => cbv
    repeat (first | refine And.intro (inR.mk (by omega) (by omega)) ?_ | refine And.intro (nLt.mk (by simp only [leafs]; omega)) ?_)
    conv => cbv
    refine (LeOut.mk' [0, 1, 2] (by decide) rfl id ?_ ?_).two
    · conv => cbv
      exact ⟨by rw [hcyc']; show _ = addI .i64 cyc 1; rw [addI_eq]; rfl, trivial⟩
    · conv => cbv
      refine ⟨⟨?_, by rw [hpc']; exact (pc4 pc).symm, trivial⟩, trivial⟩
      rw [hr', hc, setR_zero hz0]

theorem rtail_11 (r : List Int) (pc vec back : Int) (on hdl : Bool) (bd : BoardS) (F) (w cyc x y z n : Int) (hs : RegOk ⟨r, pc, vec, back, on, hdl⟩) (hz0 : r.set 0 0 = r) (hbd : BdOk bd) (hx : 0 ≤ x ∧ x < 16) (hy : 0 ≤ y ∧ y < 16) (hz : 0 ≤ z ∧ z < 16) (hap : ApIs w (.lit 10) x y z n)
    (r' : List Int) (pc' : Int) (cyc' : Int) (hr' : r' = setR r x (sumF 11 (rgL r y) (rgL r z))) (hpc' : pc' = w32 (pc + 4)) (hcyc' : cyc' = i64 (cyc + 1)) : RTailOk ⟨r, pc, vec, back, on, hdl⟩ bd F w cyc (.lit 0) ⟨1, cyc', 0, 0, 0, 0, false, 0, false, 0⟩ ⟨r', pc', vec, back, on, hdl⟩ bd := by
  refine kcode I13ok 6 ⟨[], 0⟩ tail13_chk ?_
  conv => cbv
  refine OkCall.by_spec hap [] (by decide) (by cbv) trivial ?_
  conv => cbv
  repeat (first | refine And.intro (inR.mk (by omega) (by omega)) ?_ | refine And.intro (nLt.mk (by simp only [leafs]; omega)) ?_)
  conv => cbv
  obtain ⟨xa, hexa⟩ : ∃ v, gi r (toN y) = v := ⟨_, rfl⟩
  have hgxa := hexa
  rw [giR] at hgxa
  have hUxa : U32 xa := by rw [← hgxa]; exact rg_ok hs y
  obtain ⟨xb, hexb⟩ : ∃ v, gi r (toN z) = v := ⟨_, rfl⟩
  have hgxb := hexb
  rw [giR] at hgxb
  have hUxb : U32 xb := by rw [← hgxb]; exact rg_ok hs z
  show QCall kit 34 [.i .i64 (.lit 10), .i .u32 (.ex (gi r (toN y))), .i .u32 (.ex (gi r (toN z)))] _ _
  rw [hexa, hexb]
  rw [hgxa, hgxb] at hr'
  generalize hv : sumF 11 xa xb = v at hr'
  refine rsum_11 hUxa hUxb hv.symm ?_
  conv => cbv
  refine Br.mk (fun hc => ?_) (fun hc => ?_)
  · replace hc : notB (eqI x 0) = true := hc
    rw [notB_eq, eqI_eq, Bool.not_eq_true', beq_eq_false_iff_ne] at hc
    conv => cbv
    repeat (first | refine And.intro (inR.mk (by omega) (by omega)) ?_ | refine And.intro (nLt.mk (by simp only [leafs]; omega)) ?_)
    conv => cbv
    refine (LeOut.mk' [0, 1, 2] (by decide) rfl id ?_ ?_).two
    · conv => cbv
      exact ⟨by rw [hcyc']; show _ = addI .i64 cyc 1; rw [addI_eq]; rfl, trivial⟩
    · conv => cbv
      refine ⟨⟨?_, by rw [hpc']; exact (pc4 pc).symm, trivial⟩, trivial⟩
      show r' = setI r (toN x) (v)
      rw [setI_eq, toN_eq, hr', setR_ne hz0 hx.1 hc]
  · replace hc : notB (eqI x 0) = false := hc
    rw [notB_eq, eqI_eq, Bool.not_eq_false', beq_iff_eq] at hc
    conv => cbv
    repeat (first | refine And.intro (inR.mk (by omega) (by omega)) ?_ | refine And.intro (nLt.mk (by simp only [leafs]; omega)) ?_)
    conv => cbv
    refine (LeOut.mk' [0, 1, 2] (by decide) rfl id ?_ ?_).two
    · conv => cbv
      exact ⟨by rw [hcyc']; show _ = addI .i64 cyc 1; rw [addI_eq]; rfl, trivial⟩
    · conv => cbv
      refine ⟨⟨?_, by rw [hpc']; exact (pc4 pc).symm, trivial⟩, trivial⟩
      rw [hr', hc, setR_zero hz0]

theorem rtail_12 (r : List Int) (pc vec back : Int) (on hdl : Bool) (bd : BoardS) (F) (w cyc x y z n : Int) (hs : RegOk ⟨r, pc, vec, back, on, hdl⟩) (hz0 : r.set 0 0 = r) (hbd : BdOk bd) (hx : 0 ≤ x ∧ x < 16) (hy : 0 ≤ y ∧ y < 16) (hz : 0 ≤ z ∧ z < 16) (hap : ApIs w (.lit 11) x y z n)
    (r' : List Int) (pc' : Int) (cyc' : Int) (hr' : r' = setR r x (sumF 12 (rgL r y) (rgL r z))) (hpc' : pc' = w32 (pc + 4)) (hcyc' : cyc' = i64 (cyc + 1)) : RTailOk ⟨r, pc, vec, back, on, hdl⟩ bd F w cyc (.lit 0) ⟨1, cyc', 0, 0, 0, 0, false, 0, false, 0⟩ ⟨r', pc', vec, back, on, hdl⟩ bd := by
  refine kcode I13ok 6 ⟨[], 0⟩ tail13_chk ?_
  conv => cbv
  refine OkCall.by_spec hap [] (by decide) (by cbv) trivial ?_
  conv => cbv
  repeat (first | refine And.intro (inR.mk (by omega) (by omega)) ?_ | refine And.intro (nLt.mk (by simp only [leafs]; omega)) ?_)
  conv => cbv
  obtain ⟨xa, hexa⟩ : ∃ v, gi r (toN y) = v := ⟨_, rfl⟩
  have hgxa := hexa
  rw [giR] at hgxa
  have hUxa : U32 xa := by rw [← hgxa]; exact rg_ok hs y
  obtain ⟨xb, hexb⟩ : ∃ v, gi r (toN z) = v := ⟨_, rfl⟩
  have hgxb := hexb
  rw [giR] at hgxb
  have hUxb : U32 xb := by rw [← hgxb]; exact rg_ok hs z
  show QCall kit 34 [.i .i64 (.lit 11), .i .u32 (.ex (gi r (toN y))), .i .u32 (.ex (gi r (toN z)))] _ _
  rw [hexa, hexb]
  rw [hgxa, hgxb] at hr'
  generalize hv : sumF 12 xa xb = v at hr'
  refine rsum_12 hUxa hUxb hv.symm ?_
  conv => cbv
  refine Br.mk (fun hc => ?_) (fun hc => ?_)
  · replace hc : notB (eqI x 0) = true := hc
    rw [notB_eq, eqI_eq, Bool.not_eq_true', beq_eq_false_iff_ne] at hc
    conv => cbv
    repeat (first | refine And.intro (inR.mk (by omega) (by omega)) ?_ | refine And.intro (nLt.mk (by simp only [leafs]; omega)) ?_)
    conv => cbv
    refine (LeOut.mk' [0, 1, 2] (by decide) rfl id ?_ ?_).two
    · conv => cbv
      exact ⟨by rw [hcyc']; show _ = addI .i64 cyc 1; rw [addI_eq]; rfl, trivial⟩
    · conv => cbv
      refine ⟨⟨?_, by rw [hpc']; exact (pc4 pc).symm, trivial⟩, trivial⟩
      show r' = setI r (toN x) (v)
      rw [setI_eq, toN_eq, hr', setR_ne hz0 hx.1 hc]
  · replace hc : notB (eqI x 0) = false := hc
    rw [notB_eq, eqI_eq, Bool.not_eq_false', beq_iff_eq] at hc
    conv => cbv
    repeat (first | refine And.intro (inR.mk (by omega) (by omega)) ?_ | refine And.intro (nLt.mk (by simp only [leafs]; omega)) ?_)
    conv => cbv
    refine (LeOut.mk' [0, 1, 2] (by decide) rfl id ?_ ?_).two
    · conv => cbv
      exact ⟨by rw [hcyc']; show _ = addI .i64 cyc 1; rw [addI_eq]; rfl, trivial⟩
    · conv => cbv
      refine ⟨⟨?_, by rw [hpc']; exact (pc4 pc).symm, trivial⟩, trivial⟩
      rw [hr', hc, setR_zero hz0]

theorem rtail_13 (r : List Int) (pc vec back : Int) (on hdl : Bool) (bd : BoardS) (F) (w cyc x y z n : Int) (hs : RegOk ⟨r, pc, vec, back, on, hdl⟩) (hz0 : r.set 0 0 = r) (hbd : BdOk bd) (hx : 0 ≤ x ∧ x < 16) (hy : 0 ≤ y ∧ y < 16) (hz : 0 ≤ z ∧ z < 16) (hap : ApIs w (.lit 12) x y z n)
    (r' : List Int) (pc' : Int) (cyc' : Int) (hr' : r' = setR r x (sumF 13 (rgL r y) (rgL r z))) (hpc' : pc' = w32 (pc + 4)) (hcyc' : cyc' = i64 (cyc + 1)) : RTailOk ⟨r, pc, vec, back, on, hdl⟩ bd F w cyc (.lit 0) ⟨1, cyc', 0, 0, 0, 0, false, 0, false, 0⟩ ⟨r', pc', vec, back, on, hdl⟩ bd := by
  refine kcode I13ok 6 ⟨[], 0⟩ tail13_chk ?_
  conv => cbv
  refine OkCall.by_spec hap [] (by decide) (by cbv) trivial ?_
  conv => cbv
  repeat (first | refine And.intro (inR.mk (by omega) (by omega)) ?_ | refine And.intro (nLt.mk (by simp only [leafs]; omega)) ?_)
  conv => cbv
  obtain ⟨xa, hexa⟩ : ∃ v, gi r (toN y) = v := ⟨_, rfl⟩
  have hgxa := hexa
  rw [giR] at hgxa
  have hUxa : U32 xa := by rw [← hgxa]; exact rg_ok hs y
  obtain ⟨xb, hexb⟩ : ∃ v, gi r (toN z) = v := ⟨_, rfl⟩
  have hgxb := hexb
  rw [giR] at hgxb
  have hUxb : U32 xb := by rw [← hgxb]; exact rg_ok hs z
  show QCall kit 34 [.i .i64 (.lit 12), .i .u32 (.ex (gi r (toN y))), .i .u32 (.ex (gi r (toN z)))] _ _
  rw [hexa, hexb]
  rw [hgxa, hgxb] at hr'
  generalize hv : sumF 13 xa xb = v at hr'
  refine rsum_13 hUxa hUxb hv.symm ?_
  conv => cbv
  refine Br.mk (fun hc => ?_) (fun hc => ?_)
  · replace hc : notB (eqI x 0) = true := hc
    rw [notB_eq, eqI_eq, Bool.not_eq_true', beq_eq_false_iff_ne] at hc
    conv => cbv
    repeat (first | refine And.intro (inR.mk (by omega) (by omega)) ?_ | refine And.intro (nLt.mk (by simp only [leafs]; omega)) ?_)
    conv => cbv
    refine (LeOut.mk' [0, 1, 2] (by decide) rfl id ?_ ?_).two
    · conv => cbv
      exact ⟨by rw [hcyc']; show _ = addI .i64 cyc 1; rw [addI_eq]; rfl, trivial⟩
    · conv => cbv
      refine ⟨⟨?_, by rw [hpc']; exact (pc4 pc).symm, trivial⟩, trivial⟩
      show r' = setI r (toN x) (v)
      rw [setI_eq, toN_eq, hr', setR_ne hz0 hx.1 hc]
  · replace hc : notB (eqI x 0) = false := hc
    rw [notB_eq, eqI_eq, Bool.not_eq_false', beq_iff_eq] at hc
    conv => cbv
    repeat (first | refine And.intro (inR.mk (by omega) (by omega)) ?_ | refine And.intro (nLt.mk (by simp only [leafs]; omega)) ?_)
    conv => cbv
    refine (LeOut.mk' [0, 1, 2] (by decide) rfl id ?_ ?_).two
    · conv => cbv
      exact ⟨by rw [hcyc']; show _ = addI .i64 cyc 1; rw [addI_eq]; rfl, trivial⟩
    · conv => cbv
      refine ⟨⟨?_, by rw [hpc']; exact (pc4 pc).symm, trivial⟩, trivial⟩
      rw [hr', hc, setR_zero hz0]

end Go.Proofs.YtkljgpepogkgdaaDoor

namespace Go.Proofs.YtkljgpepogkgdaaDoor
open Go Go.Vex
set_option maxRecDepth 20000
set_option maxHeartbeats 4000000
theorem rtail_23 (r : List Int) (pc vec back : Int) (on hdl : Bool) (bd : BoardS) (F) (w cyc x y z n : Int) (hs : RegOk ⟨r, pc, vec, back, on, hdl⟩) (hz0 : r.set 0 0 = r) (hbd : BdOk bd) (hx : 0 ≤ x ∧ x < 16) (hy : 0 ≤ y ∧ y < 16) (hz : 0 ≤ z ∧ z < 16) (hap : ApIs w (.lit 22) x y z n)
    (r' : List Int) (pc' : Int) (cyc' : Int) (hr' : r' = setR r x (w32 (n * 16384))) (hpc' : pc' = w32 (pc + 4)) (hcyc' : cyc' = i64 (cyc + 1)) : RTailOk ⟨r, pc, vec, back, on, hdl⟩ bd F w cyc (.lit 0) ⟨1, cyc', 0, 0, 0, 0, false, 0, false, 0⟩ ⟨r', pc', vec, back, on, hdl⟩ bd := by
  refine kcode I13ok 6 ⟨[], 0⟩ tail13_chk ?_
  conv => cbv
  refine OkCall.by_spec hap [] (by decide) (by cbv) trivial ?_
  conv => cbv
  refine Br.mk (fun hc => ?_) (fun hc => ?_)
  · replace hc : notB (eqI x 0) = true := hc
    rw [notB_eq, eqI_eq, Bool.not_eq_true', beq_eq_false_iff_ne] at hc
    conv => cbv
    repeat (first | refine And.intro (inR.mk (by omega) (by omega)) ?_ | refine And.intro (nLt.mk (by simp only [leafs]; omega)) ?_)
    conv => cbv
    refine (LeOut.mk' [0, 1, 2] (by decide) rfl id ?_ ?_).two
    · conv => cbv
      exact ⟨by rw [hcyc']; show _ = addI .i64 cyc 1; rw [addI_eq]; rfl, trivial⟩
    · conv => cbv
      refine ⟨⟨?_, by rw [hpc']; exact (pc4 pc).symm, trivial⟩, trivial⟩
      show r' = setI r (toN x) (mulI .u32 (convI .u32 n) 16384)
      rw [setI_eq, toN_eq, hr', setR_ne hz0 hx.1 hc, lui_r]
  · replace hc : notB (eqI x 0) = false := hc
    rw [notB_eq, eqI_eq, Bool.not_eq_false', beq_iff_eq] at hc
    conv => cbv
    repeat (first | refine And.intro (inR.mk (by omega) (by omega)) ?_ | refine And.intro (nLt.mk (by simp only [leafs]; omega)) ?_)
    conv => cbv
    refine (LeOut.mk' [0, 1, 2] (by decide) rfl id ?_ ?_).two
    · conv => cbv
      exact ⟨by rw [hcyc']; show _ = addI .i64 cyc 1; rw [addI_eq]; rfl, trivial⟩
    · conv => cbv
      refine ⟨⟨?_, by rw [hpc']; exact (pc4 pc).symm, trivial⟩, trivial⟩
      rw [hr', hc, setR_zero hz0]

theorem rtail_24 (r : List Int) (pc vec back : Int) (on hdl : Bool) (bd : BoardS) (F) (w cyc x y z n : Int) (hs : RegOk ⟨r, pc, vec, back, on, hdl⟩) (hz0 : r.set 0 0 = r) (hbd : BdOk bd) (hx : 0 ≤ x ∧ x < 16) (hy : 0 ≤ y ∧ y < 16) (hz : 0 ≤ z ∧ z < 16) (hf : pick1 bd.faults bd.nf = 0) (hap : ApIs w (.lit 23) x y z n)
    (at_ : Int) (bd' : BoardS) (f0 : Int) (c0 : Int) (c2 : Int) (v0 : Int) (v' : Int) (r' : List Int) (pc' : Int) (hat_ : at_ = w32 (rgL r y + n)) (hbd' : bd' = loadS bd at_ 1) (hf0 : f0 = pick1 bd.faults bd.nf) (hc0 : c0 = pick1 bd.cycles bd.nc) (hc2 : c2 = i64 (i64 (cyc + 1) + c0)) (hv0 : v0 = pick1 bd.values bd.nv) (hv' : v' = extF 24 v0) (hr' : r' = setR r x (v')) (hpc' : pc' = w32 (pc + 4)) : RTailOk ⟨r, pc, vec, back, on, hdl⟩ bd F w cyc (.lit 0) ⟨1, c2, 0, 0, at_, 0, true, v', false, 0⟩ ⟨r', pc', vec, back, on, hdl⟩ bd' := by
  refine kcode I13ok 6 ⟨[], 0⟩ tail13_chk ?_
  conv => cbv
  refine OkCall.by_spec hap [] (by decide) (by cbv) trivial ?_
  conv => cbv
  repeat (first | refine And.intro (inR.mk (by omega) (by omega)) ?_ | refine And.intro (nLt.mk (by simp only [leafs]; omega)) ?_)
  conv => cbv
  obtain ⟨xa, hexa⟩ : ∃ v, gi r (toN y) = v := ⟨_, rfl⟩
  have hgxa := hexa
  rw [giR] at hgxa
  have hUxa : U32 xa := by rw [← hgxa]; exact rg_ok hs y
  rw [← hf0] at hf
  rw [hgxa] at hat_
  have hsp := load_spec bd at_ 1 hbd.bnd hbd.log
  rw [← hbd', ← hv0, ← hc0, ← hf0] at hsp
  have hU : U32 v0 := by rw [hv0]; exact pick1_ok hbd
  refine OkCall.by_spec hsp [1] (by decide) ?_ (by cbv) ?_
  · conv => cbv
    exact ⟨by show at_ = addI .u32 (gi r (toN y)) (convI .u32 n); rw [hexa, hat_]; exact (adr xa n).symm, trivial⟩
  conv => cbv
  refine Br.no (by simp only [leafs]; rw [hf]; rfl) ?_
  conv => cbv
  refine Br.mk (fun hb => ?_) (fun hb => ?_)
  · replace hb : leI 128 (remI (convI .i64 v0) 256) = true := hb
    conv => cbv
    refine Br.mk (fun hc => ?_) (fun hc => ?_)
    · replace hc : notB (eqI x 0) = true := hc
      rw [notB_eq, eqI_eq, Bool.not_eq_true', beq_eq_false_iff_ne] at hc
      conv => cbv
      repeat (first | refine And.intro (inR.mk (by omega) (by omega)) ?_ | refine And.intro (nLt.mk (by simp only [leafs]; omega)) ?_)
      conv => cbv
      refine (LeOut.mk' [0, 1, 2] (by decide) rfl id ?_ ?_).two
      · conv => cbv
        exact ⟨by rw [hc2]; show _ = addI .i64 (addI .i64 cyc 1) c0; rw [addI_eq, addI_eq]; rfl, by show at_ = addI .u32 (gi r (toN y)) (convI .u32 n); rw [hexa, hat_]; exact (adr xa n).symm, by rw [hv']; exact (rext_24y hU hb).symm, trivial⟩
      · conv => cbv
        refine ⟨⟨?_, by rw [hpc']; exact (pc4 pc).symm, trivial⟩, trivial⟩
        show r' = setI r (toN x) (convI .u32 (subI .i64 (remI (convI .i64 v0) 256) 256))
        rw [setI_eq, toN_eq, hr', setR_ne hz0 hx.1 hc, rext_24y hU hb, ← hv']
    · replace hc : notB (eqI x 0) = false := hc
      rw [notB_eq, eqI_eq, Bool.not_eq_false', beq_iff_eq] at hc
      conv => cbv
      repeat (first | refine And.intro (inR.mk (by omega) (by omega)) ?_ | refine And.intro (nLt.mk (by simp only [leafs]; omega)) ?_)
      conv => cbv
      refine (LeOut.mk' [0, 1, 2] (by decide) rfl id ?_ ?_).two
      · conv => cbv
        exact ⟨by rw [hc2]; show _ = addI .i64 (addI .i64 cyc 1) c0; rw [addI_eq, addI_eq]; rfl, by show at_ = addI .u32 (gi r (toN y)) (convI .u32 n); rw [hexa, hat_]; exact (adr xa n).symm, by rw [hv']; exact (rext_24y hU hb).symm, trivial⟩
      · conv => cbv
        refine ⟨⟨?_, by rw [hpc']; exact (pc4 pc).symm, trivial⟩, trivial⟩
        rw [hr', hc, setR_zero hz0]
  · replace hb : leI 128 (remI (convI .i64 v0) 256) = false := hb
    conv => cbv
    refine Br.mk (fun hc => ?_) (fun hc => ?_)
    · replace hc : notB (eqI x 0) = true := hc
      rw [notB_eq, eqI_eq, Bool.not_eq_true', beq_eq_false_iff_ne] at hc
      conv => cbv
      repeat (first | refine And.intro (inR.mk (by omega) (by omega)) ?_ | refine And.intro (nLt.mk (by simp only [leafs]; omega)) ?_)
      conv => cbv
      refine (LeOut.mk' [0, 1, 2] (by decide) rfl id ?_ ?_).two
      · conv => cbv
        exact ⟨by rw [hc2]; show _ = addI .i64 (addI .i64 cyc 1) c0; rw [addI_eq, addI_eq]; rfl, by show at_ = addI .u32 (gi r (toN y)) (convI .u32 n); rw [hexa, hat_]; exact (adr xa n).symm, by rw [hv']; exact (rext_24n hU hb).symm, trivial⟩
      · conv => cbv
        refine ⟨⟨?_, by rw [hpc']; exact (pc4 pc).symm, trivial⟩, trivial⟩
        show r' = setI r (toN x) (convI .u32 (remI (convI .i64 v0) 256))
        rw [setI_eq, toN_eq, hr', setR_ne hz0 hx.1 hc, rext_24n hU hb, ← hv']
    · replace hc : notB (eqI x 0) = false := hc
      rw [notB_eq, eqI_eq, Bool.not_eq_false', beq_iff_eq] at hc
      conv => cbv
      repeat (first | refine And.intro (inR.mk (by omega) (by omega)) ?_ | refine And.intro (nLt.mk (by simp only [leafs]; omega)) ?_)
      conv => cbv
      refine (LeOut.mk' [0, 1, 2] (by decide) rfl id ?_ ?_).two
      · conv => cbv
        exact ⟨by rw [hc2]; show _ = addI .i64 (addI .i64 cyc 1) c0; rw [addI_eq, addI_eq]; rfl, by show at_ = addI .u32 (gi r (toN y)) (convI .u32 n); rw [hexa, hat_]; exact (adr xa n).symm, by rw [hv']; exact (rext_24n hU hb).symm, trivial⟩
      · conv => cbv
        refine ⟨⟨?_, by rw [hpc']; exact (pc4 pc).symm, trivial⟩, trivial⟩
        rw [hr', hc, setR_zero hz0]
theorem rtail_24f (r : List Int) (pc vec back : Int) (on hdl : Bool) (bd : BoardS) (F) (w cyc x y z n : Int) (hs : RegOk ⟨r, pc, vec, back, on, hdl⟩) (hz0 : r.set 0 0 = r) (hbd : BdOk bd) (hx : 0 ≤ x ∧ x < 16) (hy : 0 ≤ y ∧ y < 16) (hz : 0 ≤ z ∧ z < 16) (hf : pick1 bd.faults bd.nf ≠ 0) (hap : ApIs w (.lit 23) x y z n)
    (at_ : Int) (bd' : BoardS) (f0 : Int) (c0 : Int) (c2 : Int) (v0 : Int) (v' : Int) (hat_ : at_ = w32 (rgL r y + n)) (hbd' : bd' = loadS bd at_ 1) (hf0 : f0 = pick1 bd.faults bd.nf) (hc0 : c0 = pick1 bd.cycles bd.nc) (hc2 : c2 = i64 (i64 (cyc + 1) + c0)) (hv0 : v0 = pick1 bd.values bd.nv) (hv' : v' = extF 24 v0) : RTailOk ⟨r, pc, vec, back, on, hdl⟩ bd F w cyc (.lit 0) ⟨3, c2, 0, f0, at_, 0, false, 0, false, 0⟩ ⟨r, pc, vec, back, on, hdl⟩ bd' := by
  refine kcode I13ok 6 ⟨[], 0⟩ tail13_chk ?_
  conv => cbv
  refine OkCall.by_spec hap [] (by decide) (by cbv) trivial ?_
  conv => cbv
  repeat (first | refine And.intro (inR.mk (by omega) (by omega)) ?_ | refine And.intro (nLt.mk (by simp only [leafs]; omega)) ?_)
  conv => cbv
  obtain ⟨xa, hexa⟩ : ∃ v, gi r (toN y) = v := ⟨_, rfl⟩
  have hgxa := hexa
  rw [giR] at hgxa
  have hUxa : U32 xa := by rw [← hgxa]; exact rg_ok hs y
  rw [← hf0] at hf
  rw [hgxa] at hat_
  have hsp := load_spec bd at_ 1 hbd.bnd hbd.log
  rw [← hbd', ← hv0, ← hc0, ← hf0] at hsp
  have hU : U32 v0 := by rw [hv0]; exact pick1_ok hbd
  refine OkCall.by_spec hsp [1] (by decide) ?_ (by cbv) ?_
  · conv => cbv
    exact ⟨by show at_ = addI .u32 (gi r (toN y)) (convI .u32 n); rw [hexa, hat_]; exact (adr xa n).symm, trivial⟩
  conv => cbv
  refine Br.yes (by simp only [leafs]; simpa using hf) ?_
  conv => cbv
  refine (LeOut.mk' [0, 1, 2] (by decide) rfl id ?_ ?_).two
  · conv => cbv
    exact ⟨by rw [hc2]; show _ = addI .i64 (addI .i64 cyc 1) c0; rw [addI_eq, addI_eq]; rfl, by show at_ = addI .u32 (gi r (toN y)) (convI .u32 n); rw [hexa, hat_]; exact (adr xa n).symm, trivial⟩
  · conv => cbv
    trivial

theorem rtail_25 (r : List Int) (pc vec back : Int) (on hdl : Bool) (bd : BoardS) (F) (w cyc x y z n : Int) (hs : RegOk ⟨r, pc, vec, back, on, hdl⟩) (hz0 : r.set 0 0 = r) (hbd : BdOk bd) (hx : 0 ≤ x ∧ x < 16) (hy : 0 ≤ y ∧ y < 16) (hz : 0 ≤ z ∧ z < 16) (hf : pick1 bd.faults bd.nf = 0) (hap : ApIs w (.lit 24) x y z n)
    (at_ : Int) (bd' : BoardS) (f0 : Int) (c0 : Int) (c2 : Int) (v0 : Int) (v' : Int) (r' : List Int) (pc' : Int) (hat_ : at_ = w32 (rgL r y + n)) (hbd' : bd' = loadS bd at_ 1) (hf0 : f0 = pick1 bd.faults bd.nf) (hc0 : c0 = pick1 bd.cycles bd.nc) (hc2 : c2 = i64 (i64 (cyc + 1) + c0)) (hv0 : v0 = pick1 bd.values bd.nv) (hv' : v' = extF 25 v0) (hr' : r' = setR r x (v')) (hpc' : pc' = w32 (pc + 4)) : RTailOk ⟨r, pc, vec, back, on, hdl⟩ bd F w cyc (.lit 0) ⟨1, c2, 0, 0, at_, 0, true, v', false, 0⟩ ⟨r', pc', vec, back, on, hdl⟩ bd' := by
  refine kcode I13ok 6 ⟨[], 0⟩ tail13_chk ?_
  conv => cbv
  refine OkCall.by_spec hap [] (by decide) (by cbv) trivial ?_
  conv => cbv
  repeat (first | refine And.intro (inR.mk (by omega) (by omega)) ?_ | refine And.intro (nLt.mk (by simp only [leafs]; omega)) ?_)
  conv => cbv
  obtain ⟨xa, hexa⟩ : ∃ v, gi r (toN y) = v := ⟨_, rfl⟩
  have hgxa := hexa
  rw [giR] at hgxa
  have hUxa : U32 xa := by rw [← hgxa]; exact rg_ok hs y
  rw [← hf0] at hf
  rw [hgxa] at hat_
  have hsp := load_spec bd at_ 1 hbd.bnd hbd.log
  rw [← hbd', ← hv0, ← hc0, ← hf0] at hsp
  have hU : U32 v0 := by rw [hv0]; exact pick1_ok hbd
  refine OkCall.by_spec hsp [1] (by decide) ?_ (by cbv) ?_
  · conv => cbv
    exact ⟨by show at_ = addI .u32 (gi r (toN y)) (convI .u32 n); rw [hexa, hat_]; exact (adr xa n).symm, trivial⟩
  conv => cbv
  refine Br.no (by simp only [leafs]; rw [hf]; rfl) ?_
  conv => cbv
  refine Br.mk (fun hc => ?_) (fun hc => ?_)
  · replace hc : notB (eqI x 0) = true := hc
    rw [notB_eq, eqI_eq, Bool.not_eq_true', beq_eq_false_iff_ne] at hc
    conv => cbv
    repeat (first | refine And.intro (inR.mk (by omega) (by omega)) ?_ | refine And.intro (nLt.mk (by simp only [leafs]; omega)) ?_)
    conv => cbv
    refine (LeOut.mk' [0, 1, 2] (by decide) rfl id ?_ ?_).two
    · conv => cbv
      exact ⟨by rw [hc2]; show _ = addI .i64 (addI .i64 cyc 1) c0; rw [addI_eq, addI_eq]; rfl, by show at_ = addI .u32 (gi r (toN y)) (convI .u32 n); rw [hexa, hat_]; exact (adr xa n).symm, by rw [hv']; exact (rext_25 hU).symm, trivial⟩
    · conv => cbv
      refine ⟨⟨?_, by rw [hpc']; exact (pc4 pc).symm, trivial⟩, trivial⟩
      show r' = setI r (toN x) (convI .u32 (remI (convI .i64 v0) 256))
      rw [setI_eq, toN_eq, hr', setR_ne hz0 hx.1 hc, rext_25 hU, ← hv']
  · replace hc : notB (eqI x 0) = false := hc
    rw [notB_eq, eqI_eq, Bool.not_eq_false', beq_iff_eq] at hc
    conv => cbv
    repeat (first | refine And.intro (inR.mk (by omega) (by omega)) ?_ | refine And.intro (nLt.mk (by simp only [leafs]; omega)) ?_)
    conv => cbv
    refine (LeOut.mk' [0, 1, 2] (by decide) rfl id ?_ ?_).two
    · conv => cbv
      exact ⟨by rw [hc2]; show _ = addI .i64 (addI .i64 cyc 1) c0; rw [addI_eq, addI_eq]; rfl, by show at_ = addI .u32 (gi r (toN y)) (convI .u32 n); rw [hexa, hat_]; exact (adr xa n).symm, by rw [hv']; exact (rext_25 hU).symm, trivial⟩
    · conv => cbv
      refine ⟨⟨?_, by rw [hpc']; exact (pc4 pc).symm, trivial⟩, trivial⟩
      rw [hr', hc, setR_zero hz0]
theorem rtail_25f (r : List Int) (pc vec back : Int) (on hdl : Bool) (bd : BoardS) (F) (w cyc x y z n : Int) (hs : RegOk ⟨r, pc, vec, back, on, hdl⟩) (hz0 : r.set 0 0 = r) (hbd : BdOk bd) (hx : 0 ≤ x ∧ x < 16) (hy : 0 ≤ y ∧ y < 16) (hz : 0 ≤ z ∧ z < 16) (hf : pick1 bd.faults bd.nf ≠ 0) (hap : ApIs w (.lit 24) x y z n)
    (at_ : Int) (bd' : BoardS) (f0 : Int) (c0 : Int) (c2 : Int) (v0 : Int) (v' : Int) (hat_ : at_ = w32 (rgL r y + n)) (hbd' : bd' = loadS bd at_ 1) (hf0 : f0 = pick1 bd.faults bd.nf) (hc0 : c0 = pick1 bd.cycles bd.nc) (hc2 : c2 = i64 (i64 (cyc + 1) + c0)) (hv0 : v0 = pick1 bd.values bd.nv) (hv' : v' = extF 25 v0) : RTailOk ⟨r, pc, vec, back, on, hdl⟩ bd F w cyc (.lit 0) ⟨3, c2, 0, f0, at_, 0, false, 0, false, 0⟩ ⟨r, pc, vec, back, on, hdl⟩ bd' := by
  refine kcode I13ok 6 ⟨[], 0⟩ tail13_chk ?_
  conv => cbv
  refine OkCall.by_spec hap [] (by decide) (by cbv) trivial ?_
  conv => cbv
  repeat (first | refine And.intro (inR.mk (by omega) (by omega)) ?_ | refine And.intro (nLt.mk (by simp only [leafs]; omega)) ?_)
  conv => cbv
  obtain ⟨xa, hexa⟩ : ∃ v, gi r (toN y) = v := ⟨_, rfl⟩
  have hgxa := hexa
  rw [giR] at hgxa
  have hUxa : U32 xa := by rw [← hgxa]; exact rg_ok hs y
  rw [← hf0] at hf
  rw [hgxa] at hat_
  have hsp := load_spec bd at_ 1 hbd.bnd hbd.log
  rw [← hbd', ← hv0, ← hc0, ← hf0] at hsp
  have hU : U32 v0 := by rw [hv0]; exact pick1_ok hbd
  refine OkCall.by_spec hsp [1] (by decide) ?_ (by cbv) ?_
  · conv => cbv
    exact ⟨by show at_ = addI .u32 (gi r (toN y)) (convI .u32 n); rw [hexa, hat_]; exact (adr xa n).symm, trivial⟩
  conv => cbv
  refine Br.yes (by simp only [leafs]; simpa using hf) ?_
  conv => cbv
  refine (LeOut.mk' [0, 1, 2] (by decide) rfl id ?_ ?_).two
  · conv => cbv
    exact ⟨by rw [hc2]; show _ = addI .i64 (addI .i64 cyc 1) c0; rw [addI_eq, addI_eq]; rfl, by show at_ = addI .u32 (gi r (toN y)) (convI .u32 n); rw [hexa, hat_]; exact (adr xa n).symm, trivial⟩
  · conv => cbv
    trivial

theorem rtail_26 (r : List Int) (pc vec back : Int) (on hdl : Bool) (bd : BoardS) (F) (w cyc x y z n : Int) (hs : RegOk ⟨r, pc, vec, back, on, hdl⟩) (hz0 : r.set 0 0 = r) (hbd : BdOk bd) (hx : 0 ≤ x ∧ x < 16) (hy : 0 ≤ y ∧ y < 16) (hz : 0 ≤ z ∧ z < 16) (hf : pick1 bd.faults bd.nf = 0) (hap : ApIs w (.lit 25) x y z n)
    (at_ : Int) (bd' : BoardS) (f0 : Int) (c0 : Int) (c2 : Int) (v0 : Int) (v' : Int) (r' : List Int) (pc' : Int) (hat_ : at_ = w32 (rgL r y + n)) (hbd' : bd' = loadS bd at_ 2) (hf0 : f0 = pick1 bd.faults bd.nf) (hc0 : c0 = pick1 bd.cycles bd.nc) (hc2 : c2 = i64 (i64 (cyc + 1) + c0)) (hv0 : v0 = pick1 bd.values bd.nv) (hv' : v' = extF 26 v0) (hr' : r' = setR r x (v')) (hpc' : pc' = w32 (pc + 4)) : RTailOk ⟨r, pc, vec, back, on, hdl⟩ bd F w cyc (.lit 0) ⟨1, c2, 0, 0, at_, 0, true, v', false, 0⟩ ⟨r', pc', vec, back, on, hdl⟩ bd' := by
  refine kcode I13ok 6 ⟨[], 0⟩ tail13_chk ?_
  conv => cbv
  refine OkCall.by_spec hap [] (by decide) (by cbv) trivial ?_
  conv => cbv
  repeat (first | refine And.intro (inR.mk (by omega) (by omega)) ?_ | refine And.intro (nLt.mk (by simp only [leafs]; omega)) ?_)
  conv => cbv
  obtain ⟨xa, hexa⟩ : ∃ v, gi r (toN y) = v := ⟨_, rfl⟩
  have hgxa := hexa
  rw [giR] at hgxa
  have hUxa : U32 xa := by rw [← hgxa]; exact rg_ok hs y
  rw [← hf0] at hf
  rw [hgxa] at hat_
  have hsp := load_spec bd at_ 2 hbd.bnd hbd.log
  rw [← hbd', ← hv0, ← hc0, ← hf0] at hsp
  have hU : U32 v0 := by rw [hv0]; exact pick1_ok hbd
  refine OkCall.by_spec hsp [1] (by decide) ?_ (by cbv) ?_
  · conv => cbv
    exact ⟨by show at_ = addI .u32 (gi r (toN y)) (convI .u32 n); rw [hexa, hat_]; exact (adr xa n).symm, trivial⟩
  conv => cbv
  refine Br.no (by simp only [leafs]; rw [hf]; rfl) ?_
  conv => cbv
  refine Br.mk (fun hb => ?_) (fun hb => ?_)
  · replace hb : leI 32768 (remI (convI .i64 v0) 65536) = true := hb
    conv => cbv
    refine Br.mk (fun hc => ?_) (fun hc => ?_)
    · replace hc : notB (eqI x 0) = true := hc
      rw [notB_eq, eqI_eq, Bool.not_eq_true', beq_eq_false_iff_ne] at hc
      conv => cbv
      repeat (first | refine And.intro (inR.mk (by omega) (by omega)) ?_ | refine And.intro (nLt.mk (by simp only [leafs]; omega)) ?_)
      conv => cbv
      refine (LeOut.mk' [0, 1, 2] (by decide) rfl id ?_ ?_).two
      · conv => cbv
        exact ⟨by rw [hc2]; show _ = addI .i64 (addI .i64 cyc 1) c0; rw [addI_eq, addI_eq]; rfl, by show at_ = addI .u32 (gi r (toN y)) (convI .u32 n); rw [hexa, hat_]; exact (adr xa n).symm, by rw [hv']; exact (rext_26y hU hb).symm, trivial⟩
      · conv => cbv
        refine ⟨⟨?_, by rw [hpc']; exact (pc4 pc).symm, trivial⟩, trivial⟩
        show r' = setI r (toN x) (convI .u32 (subI .i64 (remI (convI .i64 v0) 65536) 65536))
        rw [setI_eq, toN_eq, hr', setR_ne hz0 hx.1 hc, rext_26y hU hb, ← hv']
    · replace hc : notB (eqI x 0) = false := hc
      rw [notB_eq, eqI_eq, Bool.not_eq_false', beq_iff_eq] at hc
      conv => cbv
      repeat (first | refine And.intro (inR.mk (by omega) (by omega)) ?_ | refine And.intro (nLt.mk (by simp only [leafs]; omega)) ?_)
      conv => cbv
      refine (LeOut.mk' [0, 1, 2] (by decide) rfl id ?_ ?_).two
      · conv => cbv
        exact ⟨by rw [hc2]; show _ = addI .i64 (addI .i64 cyc 1) c0; rw [addI_eq, addI_eq]; rfl, by show at_ = addI .u32 (gi r (toN y)) (convI .u32 n); rw [hexa, hat_]; exact (adr xa n).symm, by rw [hv']; exact (rext_26y hU hb).symm, trivial⟩
      · conv => cbv
        refine ⟨⟨?_, by rw [hpc']; exact (pc4 pc).symm, trivial⟩, trivial⟩
        rw [hr', hc, setR_zero hz0]
  · replace hb : leI 32768 (remI (convI .i64 v0) 65536) = false := hb
    conv => cbv
    refine Br.mk (fun hc => ?_) (fun hc => ?_)
    · replace hc : notB (eqI x 0) = true := hc
      rw [notB_eq, eqI_eq, Bool.not_eq_true', beq_eq_false_iff_ne] at hc
      conv => cbv
      repeat (first | refine And.intro (inR.mk (by omega) (by omega)) ?_ | refine And.intro (nLt.mk (by simp only [leafs]; omega)) ?_)
      conv => cbv
      refine (LeOut.mk' [0, 1, 2] (by decide) rfl id ?_ ?_).two
      · conv => cbv
        exact ⟨by rw [hc2]; show _ = addI .i64 (addI .i64 cyc 1) c0; rw [addI_eq, addI_eq]; rfl, by show at_ = addI .u32 (gi r (toN y)) (convI .u32 n); rw [hexa, hat_]; exact (adr xa n).symm, by rw [hv']; exact (rext_26n hU hb).symm, trivial⟩
      · conv => cbv
        refine ⟨⟨?_, by rw [hpc']; exact (pc4 pc).symm, trivial⟩, trivial⟩
        show r' = setI r (toN x) (convI .u32 (remI (convI .i64 v0) 65536))
        rw [setI_eq, toN_eq, hr', setR_ne hz0 hx.1 hc, rext_26n hU hb, ← hv']
    · replace hc : notB (eqI x 0) = false := hc
      rw [notB_eq, eqI_eq, Bool.not_eq_false', beq_iff_eq] at hc
      conv => cbv
      repeat (first | refine And.intro (inR.mk (by omega) (by omega)) ?_ | refine And.intro (nLt.mk (by simp only [leafs]; omega)) ?_)
      conv => cbv
      refine (LeOut.mk' [0, 1, 2] (by decide) rfl id ?_ ?_).two
      · conv => cbv
        exact ⟨by rw [hc2]; show _ = addI .i64 (addI .i64 cyc 1) c0; rw [addI_eq, addI_eq]; rfl, by show at_ = addI .u32 (gi r (toN y)) (convI .u32 n); rw [hexa, hat_]; exact (adr xa n).symm, by rw [hv']; exact (rext_26n hU hb).symm, trivial⟩
      · conv => cbv
        refine ⟨⟨?_, by rw [hpc']; exact (pc4 pc).symm, trivial⟩, trivial⟩
        rw [hr', hc, setR_zero hz0]
theorem rtail_26f (r : List Int) (pc vec back : Int) (on hdl : Bool) (bd : BoardS) (F) (w cyc x y z n : Int) (hs : RegOk ⟨r, pc, vec, back, on, hdl⟩) (hz0 : r.set 0 0 = r) (hbd : BdOk bd) (hx : 0 ≤ x ∧ x < 16) (hy : 0 ≤ y ∧ y < 16) (hz : 0 ≤ z ∧ z < 16) (hf : pick1 bd.faults bd.nf ≠ 0) (hap : ApIs w (.lit 25) x y z n)
    (at_ : Int) (bd' : BoardS) (f0 : Int) (c0 : Int) (c2 : Int) (v0 : Int) (v' : Int) (hat_ : at_ = w32 (rgL r y + n)) (hbd' : bd' = loadS bd at_ 2) (hf0 : f0 = pick1 bd.faults bd.nf) (hc0 : c0 = pick1 bd.cycles bd.nc) (hc2 : c2 = i64 (i64 (cyc + 1) + c0)) (hv0 : v0 = pick1 bd.values bd.nv) (hv' : v' = extF 26 v0) : RTailOk ⟨r, pc, vec, back, on, hdl⟩ bd F w cyc (.lit 0) ⟨3, c2, 0, f0, at_, 0, false, 0, false, 0⟩ ⟨r, pc, vec, back, on, hdl⟩ bd' := by
  refine kcode I13ok 6 ⟨[], 0⟩ tail13_chk ?_
  conv => cbv
  refine OkCall.by_spec hap [] (by decide) (by cbv) trivial ?_
  conv => cbv
  repeat (first | refine And.intro (inR.mk (by omega) (by omega)) ?_ | refine And.intro (nLt.mk (by simp only [leafs]; omega)) ?_)
  conv => cbv
  obtain ⟨xa, hexa⟩ : ∃ v, gi r (toN y) = v := ⟨_, rfl⟩
  have hgxa := hexa
  rw [giR] at hgxa
  have hUxa : U32 xa := by rw [← hgxa]; exact rg_ok hs y
  rw [← hf0] at hf
  rw [hgxa] at hat_
  have hsp := load_spec bd at_ 2 hbd.bnd hbd.log
  rw [← hbd', ← hv0, ← hc0, ← hf0] at hsp
  have hU : U32 v0 := by rw [hv0]; exact pick1_ok hbd
  refine OkCall.by_spec hsp [1] (by decide) ?_ (by cbv) ?_
  · conv => cbv
    exact ⟨by show at_ = addI .u32 (gi r (toN y)) (convI .u32 n); rw [hexa, hat_]; exact (adr xa n).symm, trivial⟩
  conv => cbv
  refine Br.yes (by simp only [leafs]; simpa using hf) ?_
  conv => cbv
  refine (LeOut.mk' [0, 1, 2] (by decide) rfl id ?_ ?_).two
  · conv => cbv
    exact ⟨by rw [hc2]; show _ = addI .i64 (addI .i64 cyc 1) c0; rw [addI_eq, addI_eq]; rfl, by show at_ = addI .u32 (gi r (toN y)) (convI .u32 n); rw [hexa, hat_]; exact (adr xa n).symm, trivial⟩
  · conv => cbv
    trivial

theorem rtail_27 (r : List Int) (pc vec back : Int) (on hdl : Bool) (bd : BoardS) (F) (w cyc x y z n : Int) (hs : RegOk ⟨r, pc, vec, back, on, hdl⟩) (hz0 : r.set 0 0 = r) (hbd : BdOk bd) (hx : 0 ≤ x ∧ x < 16) (hy : 0 ≤ y ∧ y < 16) (hz : 0 ≤ z ∧ z < 16) (hf : pick1 bd.faults bd.nf = 0) (hap : ApIs w (.lit 26) x y z n)
    (at_ : Int) (bd' : BoardS) (f0 : Int) (c0 : Int) (c2 : Int) (v0 : Int) (v' : Int) (r' : List Int) (pc' : Int) (hat_ : at_ = w32 (rgL r y + n)) (hbd' : bd' = loadS bd at_ 2) (hf0 : f0 = pick1 bd.faults bd.nf) (hc0 : c0 = pick1 bd.cycles bd.nc) (hc2 : c2 = i64 (i64 (cyc + 1) + c0)) (hv0 : v0 = pick1 bd.values bd.nv) (hv' : v' = extF 27 v0) (hr' : r' = setR r x (v')) (hpc' : pc' = w32 (pc + 4)) : RTailOk ⟨r, pc, vec, back, on, hdl⟩ bd F w cyc (.lit 0) ⟨1, c2, 0, 0, at_, 0, true, v', false, 0⟩ ⟨r', pc', vec, back, on, hdl⟩ bd' := by
  refine kcode I13ok 6 ⟨[], 0⟩ tail13_chk ?_
  conv => cbv
  refine OkCall.by_spec hap [] (by decide) (by cbv) trivial ?_
  conv => cbv
  repeat (first | refine And.intro (inR.mk (by omega) (by omega)) ?_ | refine And.intro (nLt.mk (by simp only [leafs]; omega)) ?_)
  conv => cbv
  obtain ⟨xa, hexa⟩ : ∃ v, gi r (toN y) = v := ⟨_, rfl⟩
  have hgxa := hexa
  rw [giR] at hgxa
  have hUxa : U32 xa := by rw [← hgxa]; exact rg_ok hs y
  rw [← hf0] at hf
  rw [hgxa] at hat_
  have hsp := load_spec bd at_ 2 hbd.bnd hbd.log
  rw [← hbd', ← hv0, ← hc0, ← hf0] at hsp
  have hU : U32 v0 := by rw [hv0]; exact pick1_ok hbd
  refine OkCall.by_spec hsp [1] (by decide) ?_ (by cbv) ?_
  · conv => cbv
    exact ⟨by show at_ = addI .u32 (gi r (toN y)) (convI .u32 n); rw [hexa, hat_]; exact (adr xa n).symm, trivial⟩
  conv => cbv
  refine Br.no (by simp only [leafs]; rw [hf]; rfl) ?_
  conv => cbv
  refine Br.mk (fun hc => ?_) (fun hc => ?_)
  · replace hc : notB (eqI x 0) = true := hc
    rw [notB_eq, eqI_eq, Bool.not_eq_true', beq_eq_false_iff_ne] at hc
    conv => cbv
    repeat (first | refine And.intro (inR.mk (by omega) (by omega)) ?_ | refine And.intro (nLt.mk (by simp only [leafs]; omega)) ?_)
    conv => cbv
    refine (LeOut.mk' [0, 1, 2] (by decide) rfl id ?_ ?_).two
    · conv => cbv
      exact ⟨by rw [hc2]; show _ = addI .i64 (addI .i64 cyc 1) c0; rw [addI_eq, addI_eq]; rfl, by show at_ = addI .u32 (gi r (toN y)) (convI .u32 n); rw [hexa, hat_]; exact (adr xa n).symm, by rw [hv']; exact (rext_27 hU).symm, trivial⟩
    · conv => cbv
      refine ⟨⟨?_, by rw [hpc']; exact (pc4 pc).symm, trivial⟩, trivial⟩
      show r' = setI r (toN x) (convI .u32 (remI (convI .i64 v0) 65536))
      rw [setI_eq, toN_eq, hr', setR_ne hz0 hx.1 hc, rext_27 hU, ← hv']
  · replace hc : notB (eqI x 0) = false := hc
    rw [notB_eq, eqI_eq, Bool.not_eq_false', beq_iff_eq] at hc
    conv => cbv
    repeat (first | refine And.intro (inR.mk (by omega) (by omega)) ?_ | refine And.intro (nLt.mk (by simp only [leafs]; omega)) ?_)
    conv => cbv
    refine (LeOut.mk' [0, 1, 2] (by decide) rfl id ?_ ?_).two
    · conv => cbv
      exact ⟨by rw [hc2]; show _ = addI .i64 (addI .i64 cyc 1) c0; rw [addI_eq, addI_eq]; rfl, by show at_ = addI .u32 (gi r (toN y)) (convI .u32 n); rw [hexa, hat_]; exact (adr xa n).symm, by rw [hv']; exact (rext_27 hU).symm, trivial⟩
    · conv => cbv
      refine ⟨⟨?_, by rw [hpc']; exact (pc4 pc).symm, trivial⟩, trivial⟩
      rw [hr', hc, setR_zero hz0]
theorem rtail_27f (r : List Int) (pc vec back : Int) (on hdl : Bool) (bd : BoardS) (F) (w cyc x y z n : Int) (hs : RegOk ⟨r, pc, vec, back, on, hdl⟩) (hz0 : r.set 0 0 = r) (hbd : BdOk bd) (hx : 0 ≤ x ∧ x < 16) (hy : 0 ≤ y ∧ y < 16) (hz : 0 ≤ z ∧ z < 16) (hf : pick1 bd.faults bd.nf ≠ 0) (hap : ApIs w (.lit 26) x y z n)
    (at_ : Int) (bd' : BoardS) (f0 : Int) (c0 : Int) (c2 : Int) (v0 : Int) (v' : Int) (hat_ : at_ = w32 (rgL r y + n)) (hbd' : bd' = loadS bd at_ 2) (hf0 : f0 = pick1 bd.faults bd.nf) (hc0 : c0 = pick1 bd.cycles bd.nc) (hc2 : c2 = i64 (i64 (cyc + 1) + c0)) (hv0 : v0 = pick1 bd.values bd.nv) (hv' : v' = extF 27 v0) : RTailOk ⟨r, pc, vec, back, on, hdl⟩ bd F w cyc (.lit 0) ⟨3, c2, 0, f0, at_, 0, false, 0, false, 0⟩ ⟨r, pc, vec, back, on, hdl⟩ bd' := by
  refine kcode I13ok 6 ⟨[], 0⟩ tail13_chk ?_
  conv => cbv
  refine OkCall.by_spec hap [] (by decide) (by cbv) trivial ?_
  conv => cbv
  repeat (first | refine And.intro (inR.mk (by omega) (by omega)) ?_ | refine And.intro (nLt.mk (by simp only [leafs]; omega)) ?_)
  conv => cbv
  obtain ⟨xa, hexa⟩ : ∃ v, gi r (toN y) = v := ⟨_, rfl⟩
  have hgxa := hexa
  rw [giR] at hgxa
  have hUxa : U32 xa := by rw [← hgxa]; exact rg_ok hs y
  rw [← hf0] at hf
  rw [hgxa] at hat_
  have hsp := load_spec bd at_ 2 hbd.bnd hbd.log
  rw [← hbd', ← hv0, ← hc0, ← hf0] at hsp
  have hU : U32 v0 := by rw [hv0]; exact pick1_ok hbd
  refine OkCall.by_spec hsp [1] (by decide) ?_ (by cbv) ?_
  · conv => cbv
    exact ⟨by show at_ = addI .u32 (gi r (toN y)) (convI .u32 n); rw [hexa, hat_]; exact (adr xa n).symm, trivial⟩
  conv => cbv
  refine Br.yes (by simp only [leafs]; simpa using hf) ?_
  conv => cbv
  refine (LeOut.mk' [0, 1, 2] (by decide) rfl id ?_ ?_).two
  · conv => cbv
    exact ⟨by rw [hc2]; show _ = addI .i64 (addI .i64 cyc 1) c0; rw [addI_eq, addI_eq]; rfl, by show at_ = addI .u32 (gi r (toN y)) (convI .u32 n); rw [hexa, hat_]; exact (adr xa n).symm, trivial⟩
  · conv => cbv
    trivial

theorem rtail_28 (r : List Int) (pc vec back : Int) (on hdl : Bool) (bd : BoardS) (F) (w cyc x y z n : Int) (hs : RegOk ⟨r, pc, vec, back, on, hdl⟩) (hz0 : r.set 0 0 = r) (hbd : BdOk bd) (hx : 0 ≤ x ∧ x < 16) (hy : 0 ≤ y ∧ y < 16) (hz : 0 ≤ z ∧ z < 16) (hf : pick1 bd.faults bd.nf = 0) (hap : ApIs w (.lit 27) x y z n)
    (at_ : Int) (bd' : BoardS) (f0 : Int) (c0 : Int) (c2 : Int) (v0 : Int) (v' : Int) (r' : List Int) (pc' : Int) (hat_ : at_ = w32 (rgL r y + n)) (hbd' : bd' = loadS bd at_ 4) (hf0 : f0 = pick1 bd.faults bd.nf) (hc0 : c0 = pick1 bd.cycles bd.nc) (hc2 : c2 = i64 (i64 (cyc + 1) + c0)) (hv0 : v0 = pick1 bd.values bd.nv) (hv' : v' = extF 28 v0) (hr' : r' = setR r x (v')) (hpc' : pc' = w32 (pc + 4)) : RTailOk ⟨r, pc, vec, back, on, hdl⟩ bd F w cyc (.lit 0) ⟨1, c2, 0, 0, at_, 0, true, v', false, 0⟩ ⟨r', pc', vec, back, on, hdl⟩ bd' := by
  refine kcode I13ok 6 ⟨[], 0⟩ tail13_chk ?_
  conv => cbv
  refine OkCall.by_spec hap [] (by decide) (by cbv) trivial ?_
  conv => cbv
  repeat (first | refine And.intro (inR.mk (by omega) (by omega)) ?_ | refine And.intro (nLt.mk (by simp only [leafs]; omega)) ?_)
  conv => cbv
  obtain ⟨xa, hexa⟩ : ∃ v, gi r (toN y) = v := ⟨_, rfl⟩
  have hgxa := hexa
  rw [giR] at hgxa
  have hUxa : U32 xa := by rw [← hgxa]; exact rg_ok hs y
  rw [← hf0] at hf
  rw [hgxa] at hat_
  have hsp := load_spec bd at_ 4 hbd.bnd hbd.log
  rw [← hbd', ← hv0, ← hc0, ← hf0] at hsp
  have hU : U32 v0 := by rw [hv0]; exact pick1_ok hbd
  refine OkCall.by_spec hsp [1] (by decide) ?_ (by cbv) ?_
  · conv => cbv
    exact ⟨by show at_ = addI .u32 (gi r (toN y)) (convI .u32 n); rw [hexa, hat_]; exact (adr xa n).symm, trivial⟩
  conv => cbv
  refine Br.no (by simp only [leafs]; rw [hf]; rfl) ?_
  conv => cbv
  refine Br.mk (fun hc => ?_) (fun hc => ?_)
  · replace hc : notB (eqI x 0) = true := hc
    rw [notB_eq, eqI_eq, Bool.not_eq_true', beq_eq_false_iff_ne] at hc
    conv => cbv
    repeat (first | refine And.intro (inR.mk (by omega) (by omega)) ?_ | refine And.intro (nLt.mk (by simp only [leafs]; omega)) ?_)
    conv => cbv
    refine (LeOut.mk' [0, 1, 2] (by decide) rfl id ?_ ?_).two
    · conv => cbv
      exact ⟨by rw [hc2]; show _ = addI .i64 (addI .i64 cyc 1) c0; rw [addI_eq, addI_eq]; rfl, by show at_ = addI .u32 (gi r (toN y)) (convI .u32 n); rw [hexa, hat_]; exact (adr xa n).symm, by rw [hv']; exact (rext_28 hU).symm, trivial⟩
    · conv => cbv
      refine ⟨⟨?_, by rw [hpc']; exact (pc4 pc).symm, trivial⟩, trivial⟩
      show r' = setI r (toN x) (convI .u32 (convI .i64 v0))
      rw [setI_eq, toN_eq, hr', setR_ne hz0 hx.1 hc, rext_28 hU, ← hv']
  · replace hc : notB (eqI x 0) = false := hc
    rw [notB_eq, eqI_eq, Bool.not_eq_false', beq_iff_eq] at hc
    conv => cbv
    repeat (first | refine And.intro (inR.mk (by omega) (by omega)) ?_ | refine And.intro (nLt.mk (by simp only [leafs]; omega)) ?_)
    conv => cbv
    refine (LeOut.mk' [0, 1, 2] (by decide) rfl id ?_ ?_).two
    · conv => cbv
      exact ⟨by rw [hc2]; show _ = addI .i64 (addI .i64 cyc 1) c0; rw [addI_eq, addI_eq]; rfl, by show at_ = addI .u32 (gi r (toN y)) (convI .u32 n); rw [hexa, hat_]; exact (adr xa n).symm, by rw [hv']; exact (rext_28 hU).symm, trivial⟩
    · conv => cbv
      refine ⟨⟨?_, by rw [hpc']; exact (pc4 pc).symm, trivial⟩, trivial⟩
      rw [hr', hc, setR_zero hz0]
theorem rtail_28f (r : List Int) (pc vec back : Int) (on hdl : Bool) (bd : BoardS) (F) (w cyc x y z n : Int) (hs : RegOk ⟨r, pc, vec, back, on, hdl⟩) (hz0 : r.set 0 0 = r) (hbd : BdOk bd) (hx : 0 ≤ x ∧ x < 16) (hy : 0 ≤ y ∧ y < 16) (hz : 0 ≤ z ∧ z < 16) (hf : pick1 bd.faults bd.nf ≠ 0) (hap : ApIs w (.lit 27) x y z n)
    (at_ : Int) (bd' : BoardS) (f0 : Int) (c0 : Int) (c2 : Int) (v0 : Int) (v' : Int) (hat_ : at_ = w32 (rgL r y + n)) (hbd' : bd' = loadS bd at_ 4) (hf0 : f0 = pick1 bd.faults bd.nf) (hc0 : c0 = pick1 bd.cycles bd.nc) (hc2 : c2 = i64 (i64 (cyc + 1) + c0)) (hv0 : v0 = pick1 bd.values bd.nv) (hv' : v' = extF 28 v0) : RTailOk ⟨r, pc, vec, back, on, hdl⟩ bd F w cyc (.lit 0) ⟨3, c2, 0, f0, at_, 0, false, 0, false, 0⟩ ⟨r, pc, vec, back, on, hdl⟩ bd' := by
  refine kcode I13ok 6 ⟨[], 0⟩ tail13_chk ?_
  conv => cbv
  refine OkCall.by_spec hap [] (by decide) (by cbv) trivial ?_
  conv => cbv
  repeat (first | refine And.intro (inR.mk (by omega) (by omega)) ?_ | refine And.intro (nLt.mk (by simp only [leafs]; omega)) ?_)
  conv => cbv
  obtain ⟨xa, hexa⟩ : ∃ v, gi r (toN y) = v := ⟨_, rfl⟩
  have hgxa := hexa
  rw [giR] at hgxa
  have hUxa : U32 xa := by rw [← hgxa]; exact rg_ok hs y
  rw [← hf0] at hf
  rw [hgxa] at hat_
  have hsp := load_spec bd at_ 4 hbd.bnd hbd.log
  rw [← hbd', ← hv0, ← hc0, ← hf0] at hsp
  have hU : U32 v0 := by rw [hv0]; exact pick1_ok hbd
  refine OkCall.by_spec hsp [1] (by decide) ?_ (by cbv) ?_
  · conv => cbv
    exact ⟨by show at_ = addI .u32 (gi r (toN y)) (convI .u32 n); rw [hexa, hat_]; exact (adr xa n).symm, trivial⟩
  conv => cbv
  refine Br.yes (by simp only [leafs]; simpa using hf) ?_
  conv => cbv
  refine (LeOut.mk' [0, 1, 2] (by decide) rfl id ?_ ?_).two
  · conv => cbv
    exact ⟨by rw [hc2]; show _ = addI .i64 (addI .i64 cyc 1) c0; rw [addI_eq, addI_eq]; rfl, by show at_ = addI .u32 (gi r (toN y)) (convI .u32 n); rw [hexa, hat_]; exact (adr xa n).symm, trivial⟩
  · conv => cbv
    trivial

end Go.Proofs.YtkljgpepogkgdaaDoor
