import Derived.Test.YtkljgpepogkgdaaDoorSQ
set_option linter.unusedVariables false
set_option linter.unusedSimpArgs false
namespace Go.Proofs.YtkljgpepogkgdaaDoor
open Go Go.Vex
set_option maxRecDepth 20000
set_option maxHeartbeats 4000000
theorem tail_26 (r : List Int) (pc vec back : Int) (on hdl : Bool) (bd : BoardS) (F) (w cyc d a b imm : Int) (hs : RegOk ⟨r, pc, vec, back, on, hdl⟩) (hbd : BdOk bd) (hd : 0 ≤ d ∧ d < 16) (ha : 0 ≤ a ∧ a < 16) (hb : 0 ≤ b ∧ b < 16) (hf : pick1 bd.faults bd.nf = 0) (hdec : DecIs w 26 d a b imm)
    (at_ : Int) (bd' : BoardS) (f0 : Int) (c0 : Int) (c2 : Int) (v0 : Int) (v' : Int) (r' : List Int) (pc' : Int) (hat_ : at_ = w32 (rgL r a + imm)) (hbd' : bd' = loadS bd at_ 2) (hf0 : f0 = pick1 bd.faults bd.nf) (hc0 : c0 = pick1 bd.cycles bd.nc) (hc2 : c2 = i64 (i64 (cyc + 1) + c0)) (hv0 : v0 = pick1 bd.values bd.nv) (hv' : v' = extF 26 v0) (hr' : r' = setR r d v') (hpc' : pc' = w32 (pc + 4)) : TailOk ⟨r, pc, vec, back, on, hdl⟩ bd F w cyc (.lit 0) ⟨1, c2, 0, 0, at_, 0, true, v', false, 0⟩ ⟨r', pc', vec, back, on, hdl⟩ bd' := by
  have hx : U32 (rgL r a) := rg_ok hs a
  have hy : U32 (rgL r b) := rg_ok hs b
  have hi : U32 (w32 imm) := w32_ok imm
  refine kcode I11ok 6 ⟨[], 0⟩ tail11_chk ?_
  conv => cbv
  refine OkCall.by_spec hdec [2] (by decide) (by cbv) (by cbv) ?_
  conv => cbv
  rw [← hf0] at hf
  obtain ⟨xa, hxa⟩ : ∃ x, x = rgL r a := ⟨_, rfl⟩
  rw [← hxa] at hx hat_
  refine QCall.of_call (.i .u32 (.ex xa)) rfl (into I11ok 6 ?_) ?_
  · conv => cbv
    refine ⟨inR.mk (by omega) (by omega), nLt.mk (by simp only [leafs]; omega), ?_⟩
    show xa = gi r (toN a)
    rw [hxa, giR]
  conv => cbv
  have hsp := load_spec bd at_ 2 hbd.bnd hbd.log
  rw [← hbd', ← hv0, ← hc0, ← hf0] at hsp
  have hU : U32 v0 := by rw [hv0]; exact pick1_ok hbd
  refine OkCall.by_spec hsp [1] (by decide) ?_ (by cbv) ?_
  · conv => cbv
    exact ⟨by rw [hat_]; exact (adr xa imm).symm, trivial⟩
  conv => cbv
  refine Br.no (by simp only [leafs]; rw [hf]; rfl) ?_
  conv => cbv
  repeat (first | refine And.intro (inR.mk (by omega) (by omega)) ?_ | refine And.intro (nLt.mk (by simp only [leafs]; omega)) ?_)
  conv => cbv
  refine (LeOut.mk' [0, 1, 2, 3] (by decide) rfl id ?_ ?_).two
  · conv => cbv
    exact ⟨by rw [hc2]; show _ = addI .i64 (addI .i64 cyc 1) c0; rw [addI_eq, addI_eq]; rfl, by rw [hat_]; exact (adr xa imm).symm, by rw [hv']; exact (ext_26 hU).symm, trivial⟩
  · conv => cbv
    refine ⟨⟨?_, by rw [hpc']; exact (pc4 pc).symm, trivial⟩, trivial⟩
    show r' = setI (setI r (toN d) (convI .u32 (shrI .i32 (convI .i32 (shlI .u32 (andI .u32 v0 65535) 16)) 16))) 0 0
    rw [setI2, ext_26 hU, ← hv']
    exact hr'
theorem tail_26f (r : List Int) (pc vec back : Int) (on hdl : Bool) (bd : BoardS) (F) (w cyc d a b imm : Int) (hs : RegOk ⟨r, pc, vec, back, on, hdl⟩) (hbd : BdOk bd) (hd : 0 ≤ d ∧ d < 16) (ha : 0 ≤ a ∧ a < 16) (hb : 0 ≤ b ∧ b < 16) (hf : pick1 bd.faults bd.nf ≠ 0) (hdec : DecIs w 26 d a b imm)
    (at_ : Int) (bd' : BoardS) (f0 : Int) (c0 : Int) (c2 : Int) (v0 : Int) (v' : Int) (hat_ : at_ = w32 (rgL r a + imm)) (hbd' : bd' = loadS bd at_ 2) (hf0 : f0 = pick1 bd.faults bd.nf) (hc0 : c0 = pick1 bd.cycles bd.nc) (hc2 : c2 = i64 (i64 (cyc + 1) + c0)) (hv0 : v0 = pick1 bd.values bd.nv) (hv' : v' = extF 26 v0) : TailOk ⟨r, pc, vec, back, on, hdl⟩ bd F w cyc (.lit 0) ⟨3, c2, 0, f0, at_, 0, false, 0, false, 0⟩ ⟨r, pc, vec, back, on, hdl⟩ bd' := by
  have hx : U32 (rgL r a) := rg_ok hs a
  have hy : U32 (rgL r b) := rg_ok hs b
  have hi : U32 (w32 imm) := w32_ok imm
  refine kcode I11ok 6 ⟨[], 0⟩ tail11_chk ?_
  conv => cbv
  refine OkCall.by_spec hdec [2] (by decide) (by cbv) (by cbv) ?_
  conv => cbv
  rw [← hf0] at hf
  obtain ⟨xa, hxa⟩ : ∃ x, x = rgL r a := ⟨_, rfl⟩
  rw [← hxa] at hx hat_
  refine QCall.of_call (.i .u32 (.ex xa)) rfl (into I11ok 6 ?_) ?_
  · conv => cbv
    refine ⟨inR.mk (by omega) (by omega), nLt.mk (by simp only [leafs]; omega), ?_⟩
    show xa = gi r (toN a)
    rw [hxa, giR]
  conv => cbv
  have hsp := load_spec bd at_ 2 hbd.bnd hbd.log
  rw [← hbd', ← hv0, ← hc0, ← hf0] at hsp
  have hU : U32 v0 := by rw [hv0]; exact pick1_ok hbd
  refine OkCall.by_spec hsp [1] (by decide) ?_ (by cbv) ?_
  · conv => cbv
    exact ⟨by rw [hat_]; exact (adr xa imm).symm, trivial⟩
  conv => cbv
  refine Br.yes (by simp only [leafs]; simpa using hf) ?_
  conv => cbv
  repeat (first | refine And.intro (inR.mk (by omega) (by omega)) ?_ | refine And.intro (nLt.mk (by simp only [leafs]; omega)) ?_)
  conv => cbv
  refine (LeOut.mk' [0, 1, 2, 3] (by decide) rfl id ?_ ?_).two
  · conv => cbv
    exact ⟨by rw [hc2]; show _ = addI .i64 (addI .i64 cyc 1) c0; rw [addI_eq, addI_eq]; rfl, by rw [hat_]; exact (adr xa imm).symm, trivial⟩
  · conv => cbv
    exact ⟨⟨(pcback hs.pc).symm, trivial⟩, trivial⟩

theorem tail_27 (r : List Int) (pc vec back : Int) (on hdl : Bool) (bd : BoardS) (F) (w cyc d a b imm : Int) (hs : RegOk ⟨r, pc, vec, back, on, hdl⟩) (hbd : BdOk bd) (hd : 0 ≤ d ∧ d < 16) (ha : 0 ≤ a ∧ a < 16) (hb : 0 ≤ b ∧ b < 16) (hf : pick1 bd.faults bd.nf = 0) (hdec : DecIs w 27 d a b imm)
    (at_ : Int) (bd' : BoardS) (f0 : Int) (c0 : Int) (c2 : Int) (v0 : Int) (v' : Int) (r' : List Int) (pc' : Int) (hat_ : at_ = w32 (rgL r a + imm)) (hbd' : bd' = loadS bd at_ 2) (hf0 : f0 = pick1 bd.faults bd.nf) (hc0 : c0 = pick1 bd.cycles bd.nc) (hc2 : c2 = i64 (i64 (cyc + 1) + c0)) (hv0 : v0 = pick1 bd.values bd.nv) (hv' : v' = extF 27 v0) (hr' : r' = setR r d v') (hpc' : pc' = w32 (pc + 4)) : TailOk ⟨r, pc, vec, back, on, hdl⟩ bd F w cyc (.lit 0) ⟨1, c2, 0, 0, at_, 0, true, v', false, 0⟩ ⟨r', pc', vec, back, on, hdl⟩ bd' := by
  have hx : U32 (rgL r a) := rg_ok hs a
  have hy : U32 (rgL r b) := rg_ok hs b
  have hi : U32 (w32 imm) := w32_ok imm
  refine kcode I11ok 6 ⟨[], 0⟩ tail11_chk ?_
  conv => cbv
  refine OkCall.by_spec hdec [2] (by decide) (by cbv) (by cbv) ?_
  conv => cbv
  rw [← hf0] at hf
  obtain ⟨xa, hxa⟩ : ∃ x, x = rgL r a := ⟨_, rfl⟩
  rw [← hxa] at hx hat_
  refine QCall.of_call (.i .u32 (.ex xa)) rfl (into I11ok 6 ?_) ?_
  · conv => cbv
    refine ⟨inR.mk (by omega) (by omega), nLt.mk (by simp only [leafs]; omega), ?_⟩
    show xa = gi r (toN a)
    rw [hxa, giR]
  conv => cbv
  have hsp := load_spec bd at_ 2 hbd.bnd hbd.log
  rw [← hbd', ← hv0, ← hc0, ← hf0] at hsp
  have hU : U32 v0 := by rw [hv0]; exact pick1_ok hbd
  refine OkCall.by_spec hsp [1] (by decide) ?_ (by cbv) ?_
  · conv => cbv
    exact ⟨by rw [hat_]; exact (adr xa imm).symm, trivial⟩
  conv => cbv
  refine Br.no (by simp only [leafs]; rw [hf]; rfl) ?_
  conv => cbv
  repeat (first | refine And.intro (inR.mk (by omega) (by omega)) ?_ | refine And.intro (nLt.mk (by simp only [leafs]; omega)) ?_)
  conv => cbv
  refine (LeOut.mk' [0, 1, 2, 3] (by decide) rfl id ?_ ?_).two
  · conv => cbv
    exact ⟨by rw [hc2]; show _ = addI .i64 (addI .i64 cyc 1) c0; rw [addI_eq, addI_eq]; rfl, by rw [hat_]; exact (adr xa imm).symm, by rw [hv']; exact (ext_27 hU).symm, trivial⟩
  · conv => cbv
    refine ⟨⟨?_, by rw [hpc']; exact (pc4 pc).symm, trivial⟩, trivial⟩
    show r' = setI (setI r (toN d) (convI .u32 (shrI .i32 (convI .i32 (shlI .u32 (andI .u32 v0 65535) 0)) 0))) 0 0
    rw [setI2, ext_27 hU, ← hv']
    exact hr'
theorem tail_27f (r : List Int) (pc vec back : Int) (on hdl : Bool) (bd : BoardS) (F) (w cyc d a b imm : Int) (hs : RegOk ⟨r, pc, vec, back, on, hdl⟩) (hbd : BdOk bd) (hd : 0 ≤ d ∧ d < 16) (ha : 0 ≤ a ∧ a < 16) (hb : 0 ≤ b ∧ b < 16) (hf : pick1 bd.faults bd.nf ≠ 0) (hdec : DecIs w 27 d a b imm)
    (at_ : Int) (bd' : BoardS) (f0 : Int) (c0 : Int) (c2 : Int) (v0 : Int) (v' : Int) (hat_ : at_ = w32 (rgL r a + imm)) (hbd' : bd' = loadS bd at_ 2) (hf0 : f0 = pick1 bd.faults bd.nf) (hc0 : c0 = pick1 bd.cycles bd.nc) (hc2 : c2 = i64 (i64 (cyc + 1) + c0)) (hv0 : v0 = pick1 bd.values bd.nv) (hv' : v' = extF 27 v0) : TailOk ⟨r, pc, vec, back, on, hdl⟩ bd F w cyc (.lit 0) ⟨3, c2, 0, f0, at_, 0, false, 0, false, 0⟩ ⟨r, pc, vec, back, on, hdl⟩ bd' := by
  have hx : U32 (rgL r a) := rg_ok hs a
  have hy : U32 (rgL r b) := rg_ok hs b
  have hi : U32 (w32 imm) := w32_ok imm
  refine kcode I11ok 6 ⟨[], 0⟩ tail11_chk ?_
  conv => cbv
  refine OkCall.by_spec hdec [2] (by decide) (by cbv) (by cbv) ?_
  conv => cbv
  rw [← hf0] at hf
  obtain ⟨xa, hxa⟩ : ∃ x, x = rgL r a := ⟨_, rfl⟩
  rw [← hxa] at hx hat_
  refine QCall.of_call (.i .u32 (.ex xa)) rfl (into I11ok 6 ?_) ?_
  · conv => cbv
    refine ⟨inR.mk (by omega) (by omega), nLt.mk (by simp only [leafs]; omega), ?_⟩
    show xa = gi r (toN a)
    rw [hxa, giR]
  conv => cbv
  have hsp := load_spec bd at_ 2 hbd.bnd hbd.log
  rw [← hbd', ← hv0, ← hc0, ← hf0] at hsp
  have hU : U32 v0 := by rw [hv0]; exact pick1_ok hbd
  refine OkCall.by_spec hsp [1] (by decide) ?_ (by cbv) ?_
  · conv => cbv
    exact ⟨by rw [hat_]; exact (adr xa imm).symm, trivial⟩
  conv => cbv
  refine Br.yes (by simp only [leafs]; simpa using hf) ?_
  conv => cbv
  repeat (first | refine And.intro (inR.mk (by omega) (by omega)) ?_ | refine And.intro (nLt.mk (by simp only [leafs]; omega)) ?_)
  conv => cbv
  refine (LeOut.mk' [0, 1, 2, 3] (by decide) rfl id ?_ ?_).two
  · conv => cbv
    exact ⟨by rw [hc2]; show _ = addI .i64 (addI .i64 cyc 1) c0; rw [addI_eq, addI_eq]; rfl, by rw [hat_]; exact (adr xa imm).symm, trivial⟩
  · conv => cbv
    exact ⟨⟨(pcback hs.pc).symm, trivial⟩, trivial⟩

theorem tail_28 (r : List Int) (pc vec back : Int) (on hdl : Bool) (bd : BoardS) (F) (w cyc d a b imm : Int) (hs : RegOk ⟨r, pc, vec, back, on, hdl⟩) (hbd : BdOk bd) (hd : 0 ≤ d ∧ d < 16) (ha : 0 ≤ a ∧ a < 16) (hb : 0 ≤ b ∧ b < 16) (hf : pick1 bd.faults bd.nf = 0) (hdec : DecIs w 28 d a b imm)
    (at_ : Int) (bd' : BoardS) (f0 : Int) (c0 : Int) (c2 : Int) (v0 : Int) (v' : Int) (r' : List Int) (pc' : Int) (hat_ : at_ = w32 (rgL r a + imm)) (hbd' : bd' = loadS bd at_ 4) (hf0 : f0 = pick1 bd.faults bd.nf) (hc0 : c0 = pick1 bd.cycles bd.nc) (hc2 : c2 = i64 (i64 (cyc + 1) + c0)) (hv0 : v0 = pick1 bd.values bd.nv) (hv' : v' = extF 28 v0) (hr' : r' = setR r d v') (hpc' : pc' = w32 (pc + 4)) : TailOk ⟨r, pc, vec, back, on, hdl⟩ bd F w cyc (.lit 0) ⟨1, c2, 0, 0, at_, 0, true, v', false, 0⟩ ⟨r', pc', vec, back, on, hdl⟩ bd' := by
  have hx : U32 (rgL r a) := rg_ok hs a
  have hy : U32 (rgL r b) := rg_ok hs b
  have hi : U32 (w32 imm) := w32_ok imm
  refine kcode I11ok 6 ⟨[], 0⟩ tail11_chk ?_
  conv => cbv
  refine OkCall.by_spec hdec [2] (by decide) (by cbv) (by cbv) ?_
  conv => cbv
  rw [← hf0] at hf
  obtain ⟨xa, hxa⟩ : ∃ x, x = rgL r a := ⟨_, rfl⟩
  rw [← hxa] at hx hat_
  refine QCall.of_call (.i .u32 (.ex xa)) rfl (into I11ok 6 ?_) ?_
  · conv => cbv
    refine ⟨inR.mk (by omega) (by omega), nLt.mk (by simp only [leafs]; omega), ?_⟩
    show xa = gi r (toN a)
    rw [hxa, giR]
  conv => cbv
  have hsp := load_spec bd at_ 4 hbd.bnd hbd.log
  rw [← hbd', ← hv0, ← hc0, ← hf0] at hsp
  have hU : U32 v0 := by rw [hv0]; exact pick1_ok hbd
  refine OkCall.by_spec hsp [1] (by decide) ?_ (by cbv) ?_
  · conv => cbv
    exact ⟨by rw [hat_]; exact (adr xa imm).symm, trivial⟩
  conv => cbv
  refine Br.no (by simp only [leafs]; rw [hf]; rfl) ?_
  conv => cbv
  repeat (first | refine And.intro (inR.mk (by omega) (by omega)) ?_ | refine And.intro (nLt.mk (by simp only [leafs]; omega)) ?_)
  conv => cbv
  refine (LeOut.mk' [0, 1, 2, 3] (by decide) rfl id ?_ ?_).two
  · conv => cbv
    exact ⟨by rw [hc2]; show _ = addI .i64 (addI .i64 cyc 1) c0; rw [addI_eq, addI_eq]; rfl, by rw [hat_]; exact (adr xa imm).symm, by rw [hv']; exact (ext_28 hU).symm, trivial⟩
  · conv => cbv
    refine ⟨⟨?_, by rw [hpc']; exact (pc4 pc).symm, trivial⟩, trivial⟩
    show r' = setI (setI r (toN d) (convI .u32 (shrI .i32 (convI .i32 (shlI .u32 (andI .u32 v0 4294967295) 0)) 0))) 0 0
    rw [setI2, ext_28 hU, ← hv']
    exact hr'
theorem tail_28f (r : List Int) (pc vec back : Int) (on hdl : Bool) (bd : BoardS) (F) (w cyc d a b imm : Int) (hs : RegOk ⟨r, pc, vec, back, on, hdl⟩) (hbd : BdOk bd) (hd : 0 ≤ d ∧ d < 16) (ha : 0 ≤ a ∧ a < 16) (hb : 0 ≤ b ∧ b < 16) (hf : pick1 bd.faults bd.nf ≠ 0) (hdec : DecIs w 28 d a b imm)
    (at_ : Int) (bd' : BoardS) (f0 : Int) (c0 : Int) (c2 : Int) (v0 : Int) (v' : Int) (hat_ : at_ = w32 (rgL r a + imm)) (hbd' : bd' = loadS bd at_ 4) (hf0 : f0 = pick1 bd.faults bd.nf) (hc0 : c0 = pick1 bd.cycles bd.nc) (hc2 : c2 = i64 (i64 (cyc + 1) + c0)) (hv0 : v0 = pick1 bd.values bd.nv) (hv' : v' = extF 28 v0) : TailOk ⟨r, pc, vec, back, on, hdl⟩ bd F w cyc (.lit 0) ⟨3, c2, 0, f0, at_, 0, false, 0, false, 0⟩ ⟨r, pc, vec, back, on, hdl⟩ bd' := by
  have hx : U32 (rgL r a) := rg_ok hs a
  have hy : U32 (rgL r b) := rg_ok hs b
  have hi : U32 (w32 imm) := w32_ok imm
  refine kcode I11ok 6 ⟨[], 0⟩ tail11_chk ?_
  conv => cbv
  refine OkCall.by_spec hdec [2] (by decide) (by cbv) (by cbv) ?_
  conv => cbv
  rw [← hf0] at hf
  obtain ⟨xa, hxa⟩ : ∃ x, x = rgL r a := ⟨_, rfl⟩
  rw [← hxa] at hx hat_
  refine QCall.of_call (.i .u32 (.ex xa)) rfl (into I11ok 6 ?_) ?_
  · conv => cbv
    refine ⟨inR.mk (by omega) (by omega), nLt.mk (by simp only [leafs]; omega), ?_⟩
    show xa = gi r (toN a)
    rw [hxa, giR]
  conv => cbv
  have hsp := load_spec bd at_ 4 hbd.bnd hbd.log
  rw [← hbd', ← hv0, ← hc0, ← hf0] at hsp
  have hU : U32 v0 := by rw [hv0]; exact pick1_ok hbd
  refine OkCall.by_spec hsp [1] (by decide) ?_ (by cbv) ?_
  · conv => cbv
    exact ⟨by rw [hat_]; exact (adr xa imm).symm, trivial⟩
  conv => cbv
  refine Br.yes (by simp only [leafs]; simpa using hf) ?_
  conv => cbv
  repeat (first | refine And.intro (inR.mk (by omega) (by omega)) ?_ | refine And.intro (nLt.mk (by simp only [leafs]; omega)) ?_)
  conv => cbv
  refine (LeOut.mk' [0, 1, 2, 3] (by decide) rfl id ?_ ?_).two
  · conv => cbv
    exact ⟨by rw [hc2]; show _ = addI .i64 (addI .i64 cyc 1) c0; rw [addI_eq, addI_eq]; rfl, by rw [hat_]; exact (adr xa imm).symm, trivial⟩
  · conv => cbv
    exact ⟨⟨(pcback hs.pc).symm, trivial⟩, trivial⟩

theorem tail_29 (r : List Int) (pc vec back : Int) (on hdl : Bool) (bd : BoardS) (F) (w cyc d a b imm : Int) (hs : RegOk ⟨r, pc, vec, back, on, hdl⟩) (hbd : BdOk bd) (hd : 0 ≤ d ∧ d < 16) (ha : 0 ≤ a ∧ a < 16) (hb : 0 ≤ b ∧ b < 16) (hf : pick1 bd.faults bd.nf = 0) (hdec : DecIs w 29 d a b imm)
    (v0 : Int) (at_ : Int) (bd' : BoardS) (f0 : Int) (c0 : Int) (c2 : Int) (pc' : Int) (hv0 : v0 = rgL r b % 256) (hat_ : at_ = w32 (rgL r a + imm)) (hbd' : bd' = storeS bd at_ 1 v0) (hf0 : f0 = pick1 bd.faults bd.nf) (hc0 : c0 = pick1 bd.cycles bd.nc) (hc2 : c2 = i64 (i64 (cyc + 1) + c0)) (hpc' : pc' = w32 (pc + 4)) : TailOk ⟨r, pc, vec, back, on, hdl⟩ bd F w cyc (.lit 0) ⟨1, c2, 0, 0, 0, 0, false, 0, false, 0⟩ ⟨r, pc', vec, back, on, hdl⟩ bd' := by
  have hx : U32 (rgL r a) := rg_ok hs a
  have hy : U32 (rgL r b) := rg_ok hs b
  have hi : U32 (w32 imm) := w32_ok imm
  refine kcode I11ok 6 ⟨[], 0⟩ tail11_chk ?_
  conv => cbv
  refine OkCall.by_spec hdec [2] (by decide) (by cbv) (by cbv) ?_
  conv => cbv
  rw [← hf0] at hf
  obtain ⟨xa, hxa⟩ : ∃ x, x = rgL r a := ⟨_, rfl⟩
  rw [← hxa] at hx hat_
  refine QCall.of_call (.i .u32 (.ex xa)) rfl (into I11ok 6 ?_) ?_
  · conv => cbv
    refine ⟨inR.mk (by omega) (by omega), nLt.mk (by simp only [leafs]; omega), ?_⟩
    show xa = gi r (toN a)
    rw [hxa, giR]
  conv => cbv
  obtain ⟨xb, hxb⟩ : ∃ x, x = rgL r b := ⟨_, rfl⟩
  rw [← hxb] at hy hv0
  refine QCall.of_call (.i .u32 (.ex xb)) rfl (into I11ok 6 ?_) ?_
  · conv => cbv
    refine ⟨inR.mk (by omega) (by omega), nLt.mk (by simp only [leafs]; omega), ?_⟩
    show xb = gi r (toN b)
    rw [hxb, giR]
  conv => cbv
  have hsp := store_spec bd at_ 1 v0 hbd.bnd hbd.log
  rw [← hbd', ← hc0, ← hf0] at hsp
  refine OkCall.by_spec hsp [1] (by decide) ?_ (by cbv) ?_
  · conv => cbv
    exact ⟨by rw [hat_]; exact (adr xa imm).symm, by rw [hv0]; exact (msk_1 hy).symm, trivial⟩
  conv => cbv
  refine Br.no (by simp only [leafs]; rw [hf]; rfl) ?_
  conv => cbv
  repeat (first | refine And.intro (inR.mk (by omega) (by omega)) ?_ | refine And.intro (nLt.mk (by simp only [leafs]; omega)) ?_)
  conv => cbv
  refine (LeOut.mk' [0, 1, 2, 3] (by decide) rfl id ?_ ?_).two
  · conv => cbv
    exact ⟨by rw [hc2]; show _ = addI .i64 (addI .i64 cyc 1) c0; rw [addI_eq, addI_eq]; rfl, trivial⟩
  · conv => cbv
    exact ⟨⟨by rw [hpc']; exact (pc4 pc).symm, trivial⟩, trivial⟩
theorem tail_29f (r : List Int) (pc vec back : Int) (on hdl : Bool) (bd : BoardS) (F) (w cyc d a b imm : Int) (hs : RegOk ⟨r, pc, vec, back, on, hdl⟩) (hbd : BdOk bd) (hd : 0 ≤ d ∧ d < 16) (ha : 0 ≤ a ∧ a < 16) (hb : 0 ≤ b ∧ b < 16) (hf : pick1 bd.faults bd.nf ≠ 0) (hdec : DecIs w 29 d a b imm)
    (v0 : Int) (at_ : Int) (bd' : BoardS) (f0 : Int) (c0 : Int) (c2 : Int) (hv0 : v0 = rgL r b % 256) (hat_ : at_ = w32 (rgL r a + imm)) (hbd' : bd' = storeS bd at_ 1 v0) (hf0 : f0 = pick1 bd.faults bd.nf) (hc0 : c0 = pick1 bd.cycles bd.nc) (hc2 : c2 = i64 (i64 (cyc + 1) + c0)) : TailOk ⟨r, pc, vec, back, on, hdl⟩ bd F w cyc (.lit 0) ⟨3, c2, 0, f0, at_, 0, false, 0, false, 0⟩ ⟨r, pc, vec, back, on, hdl⟩ bd' := by
  have hx : U32 (rgL r a) := rg_ok hs a
  have hy : U32 (rgL r b) := rg_ok hs b
  have hi : U32 (w32 imm) := w32_ok imm
  refine kcode I11ok 6 ⟨[], 0⟩ tail11_chk ?_
  conv => cbv
  refine OkCall.by_spec hdec [2] (by decide) (by cbv) (by cbv) ?_
  conv => cbv
  rw [← hf0] at hf
  obtain ⟨xa, hxa⟩ : ∃ x, x = rgL r a := ⟨_, rfl⟩
  rw [← hxa] at hx hat_
  refine QCall.of_call (.i .u32 (.ex xa)) rfl (into I11ok 6 ?_) ?_
  · conv => cbv
    refine ⟨inR.mk (by omega) (by omega), nLt.mk (by simp only [leafs]; omega), ?_⟩
    show xa = gi r (toN a)
    rw [hxa, giR]
  conv => cbv
  obtain ⟨xb, hxb⟩ : ∃ x, x = rgL r b := ⟨_, rfl⟩
  rw [← hxb] at hy hv0
  refine QCall.of_call (.i .u32 (.ex xb)) rfl (into I11ok 6 ?_) ?_
  · conv => cbv
    refine ⟨inR.mk (by omega) (by omega), nLt.mk (by simp only [leafs]; omega), ?_⟩
    show xb = gi r (toN b)
    rw [hxb, giR]
  conv => cbv
  have hsp := store_spec bd at_ 1 v0 hbd.bnd hbd.log
  rw [← hbd', ← hc0, ← hf0] at hsp
  refine OkCall.by_spec hsp [1] (by decide) ?_ (by cbv) ?_
  · conv => cbv
    exact ⟨by rw [hat_]; exact (adr xa imm).symm, by rw [hv0]; exact (msk_1 hy).symm, trivial⟩
  conv => cbv
  refine Br.yes (by simp only [leafs]; simpa using hf) ?_
  conv => cbv
  repeat (first | refine And.intro (inR.mk (by omega) (by omega)) ?_ | refine And.intro (nLt.mk (by simp only [leafs]; omega)) ?_)
  conv => cbv
  refine (LeOut.mk' [0, 1, 2, 3] (by decide) rfl id ?_ ?_).two
  · conv => cbv
    exact ⟨by rw [hc2]; show _ = addI .i64 (addI .i64 cyc 1) c0; rw [addI_eq, addI_eq]; rfl, by rw [hat_]; exact (adr xa imm).symm, trivial⟩
  · conv => cbv
    exact ⟨⟨(pcback hs.pc).symm, trivial⟩, trivial⟩

theorem tail_30 (r : List Int) (pc vec back : Int) (on hdl : Bool) (bd : BoardS) (F) (w cyc d a b imm : Int) (hs : RegOk ⟨r, pc, vec, back, on, hdl⟩) (hbd : BdOk bd) (hd : 0 ≤ d ∧ d < 16) (ha : 0 ≤ a ∧ a < 16) (hb : 0 ≤ b ∧ b < 16) (hf : pick1 bd.faults bd.nf = 0) (hdec : DecIs w 30 d a b imm)
    (v0 : Int) (at_ : Int) (bd' : BoardS) (f0 : Int) (c0 : Int) (c2 : Int) (pc' : Int) (hv0 : v0 = rgL r b % 65536) (hat_ : at_ = w32 (rgL r a + imm)) (hbd' : bd' = storeS bd at_ 2 v0) (hf0 : f0 = pick1 bd.faults bd.nf) (hc0 : c0 = pick1 bd.cycles bd.nc) (hc2 : c2 = i64 (i64 (cyc + 1) + c0)) (hpc' : pc' = w32 (pc + 4)) : TailOk ⟨r, pc, vec, back, on, hdl⟩ bd F w cyc (.lit 0) ⟨1, c2, 0, 0, 0, 0, false, 0, false, 0⟩ ⟨r, pc', vec, back, on, hdl⟩ bd' := by
  have hx : U32 (rgL r a) := rg_ok hs a
  have hy : U32 (rgL r b) := rg_ok hs b
  have hi : U32 (w32 imm) := w32_ok imm
  refine kcode I11ok 6 ⟨[], 0⟩ tail11_chk ?_
  conv => cbv
  refine OkCall.by_spec hdec [2] (by decide) (by cbv) (by cbv) ?_
  conv => cbv
  rw [← hf0] at hf
  obtain ⟨xa, hxa⟩ : ∃ x, x = rgL r a := ⟨_, rfl⟩
  rw [← hxa] at hx hat_
  refine QCall.of_call (.i .u32 (.ex xa)) rfl (into I11ok 6 ?_) ?_
  · conv => cbv
    refine ⟨inR.mk (by omega) (by omega), nLt.mk (by simp only [leafs]; omega), ?_⟩
    show xa = gi r (toN a)
    rw [hxa, giR]
  conv => cbv
  obtain ⟨xb, hxb⟩ : ∃ x, x = rgL r b := ⟨_, rfl⟩
  rw [← hxb] at hy hv0
  refine QCall.of_call (.i .u32 (.ex xb)) rfl (into I11ok 6 ?_) ?_
  · conv => cbv
    refine ⟨inR.mk (by omega) (by omega), nLt.mk (by simp only [leafs]; omega), ?_⟩
    show xb = gi r (toN b)
    rw [hxb, giR]
  conv => cbv
  have hsp := store_spec bd at_ 2 v0 hbd.bnd hbd.log
  rw [← hbd', ← hc0, ← hf0] at hsp
  refine OkCall.by_spec hsp [1] (by decide) ?_ (by cbv) ?_
  · conv => cbv
    exact ⟨by rw [hat_]; exact (adr xa imm).symm, by rw [hv0]; exact (msk_2 hy).symm, trivial⟩
  conv => cbv
  refine Br.no (by simp only [leafs]; rw [hf]; rfl) ?_
  conv => cbv
  repeat (first | refine And.intro (inR.mk (by omega) (by omega)) ?_ | refine And.intro (nLt.mk (by simp only [leafs]; omega)) ?_)
  conv => cbv
  refine (LeOut.mk' [0, 1, 2, 3] (by decide) rfl id ?_ ?_).two
  · conv => cbv
    exact ⟨by rw [hc2]; show _ = addI .i64 (addI .i64 cyc 1) c0; rw [addI_eq, addI_eq]; rfl, trivial⟩
  · conv => cbv
    exact ⟨⟨by rw [hpc']; exact (pc4 pc).symm, trivial⟩, trivial⟩
theorem tail_30f (r : List Int) (pc vec back : Int) (on hdl : Bool) (bd : BoardS) (F) (w cyc d a b imm : Int) (hs : RegOk ⟨r, pc, vec, back, on, hdl⟩) (hbd : BdOk bd) (hd : 0 ≤ d ∧ d < 16) (ha : 0 ≤ a ∧ a < 16) (hb : 0 ≤ b ∧ b < 16) (hf : pick1 bd.faults bd.nf ≠ 0) (hdec : DecIs w 30 d a b imm)
    (v0 : Int) (at_ : Int) (bd' : BoardS) (f0 : Int) (c0 : Int) (c2 : Int) (hv0 : v0 = rgL r b % 65536) (hat_ : at_ = w32 (rgL r a + imm)) (hbd' : bd' = storeS bd at_ 2 v0) (hf0 : f0 = pick1 bd.faults bd.nf) (hc0 : c0 = pick1 bd.cycles bd.nc) (hc2 : c2 = i64 (i64 (cyc + 1) + c0)) : TailOk ⟨r, pc, vec, back, on, hdl⟩ bd F w cyc (.lit 0) ⟨3, c2, 0, f0, at_, 0, false, 0, false, 0⟩ ⟨r, pc, vec, back, on, hdl⟩ bd' := by
  have hx : U32 (rgL r a) := rg_ok hs a
  have hy : U32 (rgL r b) := rg_ok hs b
  have hi : U32 (w32 imm) := w32_ok imm
  refine kcode I11ok 6 ⟨[], 0⟩ tail11_chk ?_
  conv => cbv
  refine OkCall.by_spec hdec [2] (by decide) (by cbv) (by cbv) ?_
  conv => cbv
  rw [← hf0] at hf
  obtain ⟨xa, hxa⟩ : ∃ x, x = rgL r a := ⟨_, rfl⟩
  rw [← hxa] at hx hat_
  refine QCall.of_call (.i .u32 (.ex xa)) rfl (into I11ok 6 ?_) ?_
  · conv => cbv
    refine ⟨inR.mk (by omega) (by omega), nLt.mk (by simp only [leafs]; omega), ?_⟩
    show xa = gi r (toN a)
    rw [hxa, giR]
  conv => cbv
  obtain ⟨xb, hxb⟩ : ∃ x, x = rgL r b := ⟨_, rfl⟩
  rw [← hxb] at hy hv0
  refine QCall.of_call (.i .u32 (.ex xb)) rfl (into I11ok 6 ?_) ?_
  · conv => cbv
    refine ⟨inR.mk (by omega) (by omega), nLt.mk (by simp only [leafs]; omega), ?_⟩
    show xb = gi r (toN b)
    rw [hxb, giR]
  conv => cbv
  have hsp := store_spec bd at_ 2 v0 hbd.bnd hbd.log
  rw [← hbd', ← hc0, ← hf0] at hsp
  refine OkCall.by_spec hsp [1] (by decide) ?_ (by cbv) ?_
  · conv => cbv
    exact ⟨by rw [hat_]; exact (adr xa imm).symm, by rw [hv0]; exact (msk_2 hy).symm, trivial⟩
  conv => cbv
  refine Br.yes (by simp only [leafs]; simpa using hf) ?_
  conv => cbv
  repeat (first | refine And.intro (inR.mk (by omega) (by omega)) ?_ | refine And.intro (nLt.mk (by simp only [leafs]; omega)) ?_)
  conv => cbv
  refine (LeOut.mk' [0, 1, 2, 3] (by decide) rfl id ?_ ?_).two
  · conv => cbv
    exact ⟨by rw [hc2]; show _ = addI .i64 (addI .i64 cyc 1) c0; rw [addI_eq, addI_eq]; rfl, by rw [hat_]; exact (adr xa imm).symm, trivial⟩
  · conv => cbv
    exact ⟨⟨(pcback hs.pc).symm, trivial⟩, trivial⟩

theorem tail_31 (r : List Int) (pc vec back : Int) (on hdl : Bool) (bd : BoardS) (F) (w cyc d a b imm : Int) (hs : RegOk ⟨r, pc, vec, back, on, hdl⟩) (hbd : BdOk bd) (hd : 0 ≤ d ∧ d < 16) (ha : 0 ≤ a ∧ a < 16) (hb : 0 ≤ b ∧ b < 16) (hf : pick1 bd.faults bd.nf = 0) (hdec : DecIs w 31 d a b imm)
    (v0 : Int) (at_ : Int) (bd' : BoardS) (f0 : Int) (c0 : Int) (c2 : Int) (pc' : Int) (hv0 : v0 = rgL r b % 4294967296) (hat_ : at_ = w32 (rgL r a + imm)) (hbd' : bd' = storeS bd at_ 4 v0) (hf0 : f0 = pick1 bd.faults bd.nf) (hc0 : c0 = pick1 bd.cycles bd.nc) (hc2 : c2 = i64 (i64 (cyc + 1) + c0)) (hpc' : pc' = w32 (pc + 4)) : TailOk ⟨r, pc, vec, back, on, hdl⟩ bd F w cyc (.lit 0) ⟨1, c2, 0, 0, 0, 0, false, 0, false, 0⟩ ⟨r, pc', vec, back, on, hdl⟩ bd' := by
  have hx : U32 (rgL r a) := rg_ok hs a
  have hy : U32 (rgL r b) := rg_ok hs b
  have hi : U32 (w32 imm) := w32_ok imm
  refine kcode I11ok 6 ⟨[], 0⟩ tail11_chk ?_
  conv => cbv
  refine OkCall.by_spec hdec [2] (by decide) (by cbv) (by cbv) ?_
  conv => cbv
  rw [← hf0] at hf
  obtain ⟨xa, hxa⟩ : ∃ x, x = rgL r a := ⟨_, rfl⟩
  rw [← hxa] at hx hat_
  refine QCall.of_call (.i .u32 (.ex xa)) rfl (into I11ok 6 ?_) ?_
  · conv => cbv
    refine ⟨inR.mk (by omega) (by omega), nLt.mk (by simp only [leafs]; omega), ?_⟩
    show xa = gi r (toN a)
    rw [hxa, giR]
  conv => cbv
  obtain ⟨xb, hxb⟩ : ∃ x, x = rgL r b := ⟨_, rfl⟩
  rw [← hxb] at hy hv0
  refine QCall.of_call (.i .u32 (.ex xb)) rfl (into I11ok 6 ?_) ?_
  · conv => cbv
    refine ⟨inR.mk (by omega) (by omega), nLt.mk (by simp only [leafs]; omega), ?_⟩
    show xb = gi r (toN b)
    rw [hxb, giR]
  conv => cbv
  have hsp := store_spec bd at_ 4 v0 hbd.bnd hbd.log
  rw [← hbd', ← hc0, ← hf0] at hsp
  refine OkCall.by_spec hsp [1] (by decide) ?_ (by cbv) ?_
  · conv => cbv
    exact ⟨by rw [hat_]; exact (adr xa imm).symm, by rw [hv0]; exact (msk_4 hy).symm, trivial⟩
  conv => cbv
  refine Br.no (by simp only [leafs]; rw [hf]; rfl) ?_
  conv => cbv
  repeat (first | refine And.intro (inR.mk (by omega) (by omega)) ?_ | refine And.intro (nLt.mk (by simp only [leafs]; omega)) ?_)
  conv => cbv
  refine (LeOut.mk' [0, 1, 2, 3] (by decide) rfl id ?_ ?_).two
  · conv => cbv
    exact ⟨by rw [hc2]; show _ = addI .i64 (addI .i64 cyc 1) c0; rw [addI_eq, addI_eq]; rfl, trivial⟩
  · conv => cbv
    exact ⟨⟨by rw [hpc']; exact (pc4 pc).symm, trivial⟩, trivial⟩
theorem tail_31f (r : List Int) (pc vec back : Int) (on hdl : Bool) (bd : BoardS) (F) (w cyc d a b imm : Int) (hs : RegOk ⟨r, pc, vec, back, on, hdl⟩) (hbd : BdOk bd) (hd : 0 ≤ d ∧ d < 16) (ha : 0 ≤ a ∧ a < 16) (hb : 0 ≤ b ∧ b < 16) (hf : pick1 bd.faults bd.nf ≠ 0) (hdec : DecIs w 31 d a b imm)
    (v0 : Int) (at_ : Int) (bd' : BoardS) (f0 : Int) (c0 : Int) (c2 : Int) (hv0 : v0 = rgL r b % 4294967296) (hat_ : at_ = w32 (rgL r a + imm)) (hbd' : bd' = storeS bd at_ 4 v0) (hf0 : f0 = pick1 bd.faults bd.nf) (hc0 : c0 = pick1 bd.cycles bd.nc) (hc2 : c2 = i64 (i64 (cyc + 1) + c0)) : TailOk ⟨r, pc, vec, back, on, hdl⟩ bd F w cyc (.lit 0) ⟨3, c2, 0, f0, at_, 0, false, 0, false, 0⟩ ⟨r, pc, vec, back, on, hdl⟩ bd' := by
  have hx : U32 (rgL r a) := rg_ok hs a
  have hy : U32 (rgL r b) := rg_ok hs b
  have hi : U32 (w32 imm) := w32_ok imm
  refine kcode I11ok 6 ⟨[], 0⟩ tail11_chk ?_
  conv => cbv
  refine OkCall.by_spec hdec [2] (by decide) (by cbv) (by cbv) ?_
  conv => cbv
  rw [← hf0] at hf
  obtain ⟨xa, hxa⟩ : ∃ x, x = rgL r a := ⟨_, rfl⟩
  rw [← hxa] at hx hat_
  refine QCall.of_call (.i .u32 (.ex xa)) rfl (into I11ok 6 ?_) ?_
  · conv => cbv
    refine ⟨inR.mk (by omega) (by omega), nLt.mk (by simp only [leafs]; omega), ?_⟩
    show xa = gi r (toN a)
    rw [hxa, giR]
  conv => cbv
  obtain ⟨xb, hxb⟩ : ∃ x, x = rgL r b := ⟨_, rfl⟩
  rw [← hxb] at hy hv0
  refine QCall.of_call (.i .u32 (.ex xb)) rfl (into I11ok 6 ?_) ?_
  · conv => cbv
    refine ⟨inR.mk (by omega) (by omega), nLt.mk (by simp only [leafs]; omega), ?_⟩
    show xb = gi r (toN b)
    rw [hxb, giR]
  conv => cbv
  have hsp := store_spec bd at_ 4 v0 hbd.bnd hbd.log
  rw [← hbd', ← hc0, ← hf0] at hsp
  refine OkCall.by_spec hsp [1] (by decide) ?_ (by cbv) ?_
  · conv => cbv
    exact ⟨by rw [hat_]; exact (adr xa imm).symm, by rw [hv0]; exact (msk_4 hy).symm, trivial⟩
  conv => cbv
  refine Br.yes (by simp only [leafs]; simpa using hf) ?_
  conv => cbv
  repeat (first | refine And.intro (inR.mk (by omega) (by omega)) ?_ | refine And.intro (nLt.mk (by simp only [leafs]; omega)) ?_)
  conv => cbv
  refine (LeOut.mk' [0, 1, 2, 3] (by decide) rfl id ?_ ?_).two
  · conv => cbv
    exact ⟨by rw [hc2]; show _ = addI .i64 (addI .i64 cyc 1) c0; rw [addI_eq, addI_eq]; rfl, by rw [hat_]; exact (adr xa imm).symm, trivial⟩
  · conv => cbv
    exact ⟨⟨(pcback hs.pc).symm, trivial⟩, trivial⟩

theorem tail_32 (r : List Int) (pc vec back : Int) (on hdl : Bool) (bd : BoardS) (F) (w cyc d a b imm : Int) (hs : RegOk ⟨r, pc, vec, back, on, hdl⟩) (hbd : BdOk bd) (hd : 0 ≤ d ∧ d < 16) (ha : 0 ≤ a ∧ a < 16) (hb : 0 ≤ b ∧ b < 16) (hdec : DecIs w 32 d a b imm)
    (pc' : Int) (cyc' : Int) (hpc' : pc' = if brF 32 (rgL r a) (rgL r b) then w32 (pc + 4 * imm) else w32 (pc + 4)) (hcyc' : cyc' = i64 (cyc + 1)) : TailOk ⟨r, pc, vec, back, on, hdl⟩ bd F w cyc (.lit 0) ⟨1, cyc', 0, 0, 0, 0, false, 0, false, 0⟩ ⟨r, pc', vec, back, on, hdl⟩ bd := by
  have hx : U32 (rgL r a) := rg_ok hs a
  have hy : U32 (rgL r b) := rg_ok hs b
  have hi : U32 (w32 imm) := w32_ok imm
  refine kcode I11ok 6 ⟨[], 0⟩ tail11_chk ?_
  conv => cbv
  refine OkCall.by_spec hdec [2] (by decide) (by cbv) (by cbv) ?_
  conv => cbv
  repeat (first | refine And.intro (inR.mk (by omega) (by omega)) ?_ | refine And.intro (nLt.mk (by simp only [leafs]; omega)) ?_)
  conv => cbv
  refine Br.mk (fun hc => ?_) (fun hc => ?_)
  · replace hc : eqI (gi r (toN a)) (gi r (toN b)) = true := hc
    rw [giR, giR, brc_32] at hc
    conv => cbv
    refine (LeOut.mk' [0, 1, 2, 3] (by decide) rfl id ?_ ?_).two
    · conv => cbv
      exact ⟨by rw [hcyc']; show _ = addI .i64 cyc 1; rw [addI_eq]; rfl, trivial⟩
    · conv => cbv
      exact ⟨⟨by rw [hpc', if_pos hc]; exact (brTo pc imm).symm, trivial⟩, trivial⟩
  · replace hc : eqI (gi r (toN a)) (gi r (toN b)) = false := hc
    rw [giR, giR, brc_32] at hc
    conv => cbv
    refine (LeOut.mk' [0, 1, 2, 3] (by decide) rfl id ?_ ?_).two
    · conv => cbv
      exact ⟨by rw [hcyc']; show _ = addI .i64 cyc 1; rw [addI_eq]; rfl, trivial⟩
    · conv => cbv
      exact ⟨⟨by rw [hpc', if_neg (by rw [hc]; decide)]; exact (pc4 pc).symm, trivial⟩, trivial⟩

theorem tail_33 (r : List Int) (pc vec back : Int) (on hdl : Bool) (bd : BoardS) (F) (w cyc d a b imm : Int) (hs : RegOk ⟨r, pc, vec, back, on, hdl⟩) (hbd : BdOk bd) (hd : 0 ≤ d ∧ d < 16) (ha : 0 ≤ a ∧ a < 16) (hb : 0 ≤ b ∧ b < 16) (hdec : DecIs w 33 d a b imm)
    (pc' : Int) (cyc' : Int) (hpc' : pc' = if brF 33 (rgL r a) (rgL r b) then w32 (pc + 4 * imm) else w32 (pc + 4)) (hcyc' : cyc' = i64 (cyc + 1)) : TailOk ⟨r, pc, vec, back, on, hdl⟩ bd F w cyc (.lit 0) ⟨1, cyc', 0, 0, 0, 0, false, 0, false, 0⟩ ⟨r, pc', vec, back, on, hdl⟩ bd := by
  have hx : U32 (rgL r a) := rg_ok hs a
  have hy : U32 (rgL r b) := rg_ok hs b
  have hi : U32 (w32 imm) := w32_ok imm
  refine kcode I11ok 6 ⟨[], 0⟩ tail11_chk ?_
  conv => cbv
  refine OkCall.by_spec hdec [2] (by decide) (by cbv) (by cbv) ?_
  conv => cbv
  repeat (first | refine And.intro (inR.mk (by omega) (by omega)) ?_ | refine And.intro (nLt.mk (by simp only [leafs]; omega)) ?_)
  conv => cbv
  refine Br.mk (fun hc => ?_) (fun hc => ?_)
  · replace hc : notB (eqI (gi r (toN a)) (gi r (toN b))) = true := hc
    rw [giR, giR, brc_33] at hc
    conv => cbv
    refine (LeOut.mk' [0, 1, 2, 3] (by decide) rfl id ?_ ?_).two
    · conv => cbv
      exact ⟨by rw [hcyc']; show _ = addI .i64 cyc 1; rw [addI_eq]; rfl, trivial⟩
    · conv => cbv
      exact ⟨⟨by rw [hpc', if_pos hc]; exact (brTo pc imm).symm, trivial⟩, trivial⟩
  · replace hc : notB (eqI (gi r (toN a)) (gi r (toN b))) = false := hc
    rw [giR, giR, brc_33] at hc
    conv => cbv
    refine (LeOut.mk' [0, 1, 2, 3] (by decide) rfl id ?_ ?_).two
    · conv => cbv
      exact ⟨by rw [hcyc']; show _ = addI .i64 cyc 1; rw [addI_eq]; rfl, trivial⟩
    · conv => cbv
      exact ⟨⟨by rw [hpc', if_neg (by rw [hc]; decide)]; exact (pc4 pc).symm, trivial⟩, trivial⟩

theorem tail_34 (r : List Int) (pc vec back : Int) (on hdl : Bool) (bd : BoardS) (F) (w cyc d a b imm : Int) (hs : RegOk ⟨r, pc, vec, back, on, hdl⟩) (hbd : BdOk bd) (hd : 0 ≤ d ∧ d < 16) (ha : 0 ≤ a ∧ a < 16) (hb : 0 ≤ b ∧ b < 16) (hdec : DecIs w 34 d a b imm)
    (pc' : Int) (cyc' : Int) (hpc' : pc' = if brF 34 (rgL r a) (rgL r b) then w32 (pc + 4 * imm) else w32 (pc + 4)) (hcyc' : cyc' = i64 (cyc + 1)) : TailOk ⟨r, pc, vec, back, on, hdl⟩ bd F w cyc (.lit 0) ⟨1, cyc', 0, 0, 0, 0, false, 0, false, 0⟩ ⟨r, pc', vec, back, on, hdl⟩ bd := by
  have hx : U32 (rgL r a) := rg_ok hs a
  have hy : U32 (rgL r b) := rg_ok hs b
  have hi : U32 (w32 imm) := w32_ok imm
  refine kcode I11ok 6 ⟨[], 0⟩ tail11_chk ?_
  conv => cbv
  refine OkCall.by_spec hdec [2] (by decide) (by cbv) (by cbv) ?_
  conv => cbv
  repeat (first | refine And.intro (inR.mk (by omega) (by omega)) ?_ | refine And.intro (nLt.mk (by simp only [leafs]; omega)) ?_)
  conv => cbv
  refine Br.mk (fun hc => ?_) (fun hc => ?_)
  · replace hc : ltI (convI .i32 (gi r (toN a))) (convI .i32 (gi r (toN b))) = true := hc
    rw [giR, giR, brc_34 hx hy] at hc
    conv => cbv
    refine (LeOut.mk' [0, 1, 2, 3] (by decide) rfl id ?_ ?_).two
    · conv => cbv
      exact ⟨by rw [hcyc']; show _ = addI .i64 cyc 1; rw [addI_eq]; rfl, trivial⟩
    · conv => cbv
      exact ⟨⟨by rw [hpc', if_pos hc]; exact (brTo pc imm).symm, trivial⟩, trivial⟩
  · replace hc : ltI (convI .i32 (gi r (toN a))) (convI .i32 (gi r (toN b))) = false := hc
    rw [giR, giR, brc_34 hx hy] at hc
    conv => cbv
    refine (LeOut.mk' [0, 1, 2, 3] (by decide) rfl id ?_ ?_).two
    · conv => cbv
      exact ⟨by rw [hcyc']; show _ = addI .i64 cyc 1; rw [addI_eq]; rfl, trivial⟩
    · conv => cbv
      exact ⟨⟨by rw [hpc', if_neg (by rw [hc]; decide)]; exact (pc4 pc).symm, trivial⟩, trivial⟩

theorem tail_35 (r : List Int) (pc vec back : Int) (on hdl : Bool) (bd : BoardS) (F) (w cyc d a b imm : Int) (hs : RegOk ⟨r, pc, vec, back, on, hdl⟩) (hbd : BdOk bd) (hd : 0 ≤ d ∧ d < 16) (ha : 0 ≤ a ∧ a < 16) (hb : 0 ≤ b ∧ b < 16) (hdec : DecIs w 35 d a b imm)
    (pc' : Int) (cyc' : Int) (hpc' : pc' = if brF 35 (rgL r a) (rgL r b) then w32 (pc + 4 * imm) else w32 (pc + 4)) (hcyc' : cyc' = i64 (cyc + 1)) : TailOk ⟨r, pc, vec, back, on, hdl⟩ bd F w cyc (.lit 0) ⟨1, cyc', 0, 0, 0, 0, false, 0, false, 0⟩ ⟨r, pc', vec, back, on, hdl⟩ bd := by
  have hx : U32 (rgL r a) := rg_ok hs a
  have hy : U32 (rgL r b) := rg_ok hs b
  have hi : U32 (w32 imm) := w32_ok imm
  refine kcode I11ok 6 ⟨[], 0⟩ tail11_chk ?_
  conv => cbv
  refine OkCall.by_spec hdec [2] (by decide) (by cbv) (by cbv) ?_
  conv => cbv
  repeat (first | refine And.intro (inR.mk (by omega) (by omega)) ?_ | refine And.intro (nLt.mk (by simp only [leafs]; omega)) ?_)
  conv => cbv
  refine Br.mk (fun hc => ?_) (fun hc => ?_)
  · replace hc : leI (convI .i32 (gi r (toN b))) (convI .i32 (gi r (toN a))) = true := hc
    rw [giR, giR, brc_35 hx hy] at hc
    conv => cbv
    refine (LeOut.mk' [0, 1, 2, 3] (by decide) rfl id ?_ ?_).two
    · conv => cbv
      exact ⟨by rw [hcyc']; show _ = addI .i64 cyc 1; rw [addI_eq]; rfl, trivial⟩
    · conv => cbv
      exact ⟨⟨by rw [hpc', if_pos hc]; exact (brTo pc imm).symm, trivial⟩, trivial⟩
  · replace hc : leI (convI .i32 (gi r (toN b))) (convI .i32 (gi r (toN a))) = false := hc
    rw [giR, giR, brc_35 hx hy] at hc
    conv => cbv
    refine (LeOut.mk' [0, 1, 2, 3] (by decide) rfl id ?_ ?_).two
    · conv => cbv
      exact ⟨by rw [hcyc']; show _ = addI .i64 cyc 1; rw [addI_eq]; rfl, trivial⟩
    · conv => cbv
      exact ⟨⟨by rw [hpc', if_neg (by rw [hc]; decide)]; exact (pc4 pc).symm, trivial⟩, trivial⟩

theorem tail_36 (r : List Int) (pc vec back : Int) (on hdl : Bool) (bd : BoardS) (F) (w cyc d a b imm : Int) (hs : RegOk ⟨r, pc, vec, back, on, hdl⟩) (hbd : BdOk bd) (hd : 0 ≤ d ∧ d < 16) (ha : 0 ≤ a ∧ a < 16) (hb : 0 ≤ b ∧ b < 16) (hdec : DecIs w 36 d a b imm)
    (pc' : Int) (cyc' : Int) (hpc' : pc' = if brF 36 (rgL r a) (rgL r b) then w32 (pc + 4 * imm) else w32 (pc + 4)) (hcyc' : cyc' = i64 (cyc + 1)) : TailOk ⟨r, pc, vec, back, on, hdl⟩ bd F w cyc (.lit 0) ⟨1, cyc', 0, 0, 0, 0, false, 0, false, 0⟩ ⟨r, pc', vec, back, on, hdl⟩ bd := by
  have hx : U32 (rgL r a) := rg_ok hs a
  have hy : U32 (rgL r b) := rg_ok hs b
  have hi : U32 (w32 imm) := w32_ok imm
  refine kcode I11ok 6 ⟨[], 0⟩ tail11_chk ?_
  conv => cbv
  refine OkCall.by_spec hdec [2] (by decide) (by cbv) (by cbv) ?_
  conv => cbv
  repeat (first | refine And.intro (inR.mk (by omega) (by omega)) ?_ | refine And.intro (nLt.mk (by simp only [leafs]; omega)) ?_)
  conv => cbv
  refine Br.mk (fun hc => ?_) (fun hc => ?_)
  · replace hc : ltI (gi r (toN a)) (gi r (toN b)) = true := hc
    rw [giR, giR, brc_36] at hc
    conv => cbv
    refine (LeOut.mk' [0, 1, 2, 3] (by decide) rfl id ?_ ?_).two
    · conv => cbv
      exact ⟨by rw [hcyc']; show _ = addI .i64 cyc 1; rw [addI_eq]; rfl, trivial⟩
    · conv => cbv
      exact ⟨⟨by rw [hpc', if_pos hc]; exact (brTo pc imm).symm, trivial⟩, trivial⟩
  · replace hc : ltI (gi r (toN a)) (gi r (toN b)) = false := hc
    rw [giR, giR, brc_36] at hc
    conv => cbv
    refine (LeOut.mk' [0, 1, 2, 3] (by decide) rfl id ?_ ?_).two
    · conv => cbv
      exact ⟨by rw [hcyc']; show _ = addI .i64 cyc 1; rw [addI_eq]; rfl, trivial⟩
    · conv => cbv
      exact ⟨⟨by rw [hpc', if_neg (by rw [hc]; decide)]; exact (pc4 pc).symm, trivial⟩, trivial⟩

theorem tail_37 (r : List Int) (pc vec back : Int) (on hdl : Bool) (bd : BoardS) (F) (w cyc d a b imm : Int) (hs : RegOk ⟨r, pc, vec, back, on, hdl⟩) (hbd : BdOk bd) (hd : 0 ≤ d ∧ d < 16) (ha : 0 ≤ a ∧ a < 16) (hb : 0 ≤ b ∧ b < 16) (hdec : DecIs w 37 d a b imm)
    (pc' : Int) (cyc' : Int) (hpc' : pc' = if brF 37 (rgL r a) (rgL r b) then w32 (pc + 4 * imm) else w32 (pc + 4)) (hcyc' : cyc' = i64 (cyc + 1)) : TailOk ⟨r, pc, vec, back, on, hdl⟩ bd F w cyc (.lit 0) ⟨1, cyc', 0, 0, 0, 0, false, 0, false, 0⟩ ⟨r, pc', vec, back, on, hdl⟩ bd := by
  have hx : U32 (rgL r a) := rg_ok hs a
  have hy : U32 (rgL r b) := rg_ok hs b
  have hi : U32 (w32 imm) := w32_ok imm
  refine kcode I11ok 6 ⟨[], 0⟩ tail11_chk ?_
  conv => cbv
  refine OkCall.by_spec hdec [2] (by decide) (by cbv) (by cbv) ?_
  conv => cbv
  repeat (first | refine And.intro (inR.mk (by omega) (by omega)) ?_ | refine And.intro (nLt.mk (by simp only [leafs]; omega)) ?_)
  conv => cbv
  refine Br.mk (fun hc => ?_) (fun hc => ?_)
  · replace hc : leI (gi r (toN b)) (gi r (toN a)) = true := hc
    rw [giR, giR, brc_37] at hc
    conv => cbv
    refine (LeOut.mk' [0, 1, 2, 3] (by decide) rfl id ?_ ?_).two
    · conv => cbv
      exact ⟨by rw [hcyc']; show _ = addI .i64 cyc 1; rw [addI_eq]; rfl, trivial⟩
    · conv => cbv
      exact ⟨⟨by rw [hpc', if_pos hc]; exact (brTo pc imm).symm, trivial⟩, trivial⟩
  · replace hc : leI (gi r (toN b)) (gi r (toN a)) = false := hc
    rw [giR, giR, brc_37] at hc
    conv => cbv
    refine (LeOut.mk' [0, 1, 2, 3] (by decide) rfl id ?_ ?_).two
    · conv => cbv
      exact ⟨by rw [hcyc']; show _ = addI .i64 cyc 1; rw [addI_eq]; rfl, trivial⟩
    · conv => cbv
      exact ⟨⟨by rw [hpc', if_neg (by rw [hc]; decide)]; exact (pc4 pc).symm, trivial⟩, trivial⟩

end Go.Proofs.YtkljgpepogkgdaaDoor
