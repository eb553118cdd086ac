/-
  Merged: TC TD.
-/
import Derived.Test.YtkljgpepogkgdaaDoorRM
set_option linter.unusedVariables false
set_option linter.unusedSimpArgs false
namespace Go.Proofs.YtkljgpepogkgdaaDoor
open Go Go.Vex
set_option maxRecDepth 20000
set_option maxHeartbeats 4000000
theorem rtail_29 (r : List Int) (pc vec back : Int) (on hdl : Bool) (bd : BoardS) (F) (w cyc x y z n : Int) (hs : RegOk ⟨r, pc, vec, back, on, hdl⟩) (hz0 : r.set 0 0 = r) (hbd : BdOk bd) (hx : 0 ≤ x ∧ x < 16) (hy : 0 ≤ y ∧ y < 16) (hz : 0 ≤ z ∧ z < 16) (hf : pick1 bd.faults bd.nf = 0) (hap : ApIs w (.lit 28) x y z n)
    (v0 : Int) (at_ : Int) (bd' : BoardS) (f0 : Int) (c0 : Int) (c2 : Int) (pc' : Int) (hv0 : v0 = rgL r y % 256) (hat_ : at_ = w32 (rgL r x + n)) (hbd' : bd' = storeS bd at_ 1 v0) (hf0 : f0 = pick1 bd.faults bd.nf) (hc0 : c0 = pick1 bd.cycles bd.nc) (hc2 : c2 = i64 (i64 (cyc + 1) + c0)) (hpc' : pc' = w32 (pc + 4)) : RTailOk ⟨r, pc, vec, back, on, hdl⟩ bd F w cyc (.lit 0) ⟨1, c2, 0, 0, 0, 0, false, 0, false, 0⟩ ⟨r, pc', vec, back, on, hdl⟩ bd' := by
  refine kcode I13ok 6 ⟨[], 0⟩ tail13_chk ?_
  conv => cbv
  refine OkCall.by_spec hap [] (by decide) (by cbv) trivial ?_
  conv => cbv
  repeat (first | refine And.intro (inR.mk (by omega) (by omega)) ?_ | refine And.intro (nLt.mk (by simp only [leafs]; omega)) ?_)
  conv => cbv
  obtain ⟨xa, hexa⟩ : ∃ v, gi r (toN x) = v := ⟨_, rfl⟩
  have hgxa := hexa
  rw [giR] at hgxa
  have hUxa : U32 xa := by rw [← hgxa]; exact rg_ok hs x
  obtain ⟨xb, hexb⟩ : ∃ v, gi r (toN y) = v := ⟨_, rfl⟩
  have hgxb := hexb
  rw [giR] at hgxb
  have hUxb : U32 xb := by rw [← hgxb]; exact rg_ok hs y
  rw [← hf0] at hf
  rw [hgxa] at hat_
  rw [hgxb] at hv0
  have hsp := store_spec bd at_ 1 v0 hbd.bnd hbd.log
  rw [← hbd', ← hc0, ← hf0] at hsp
  refine OkCall.by_spec hsp [1] (by decide) ?_ (by cbv) ?_
  · conv => cbv
    exact ⟨by show at_ = addI .u32 (gi r (toN x)) (convI .u32 n); rw [hexa, hat_]; exact (adr xa n).symm, by show v0 = remI (gi r (toN y)) 256; rw [hexb, hv0]; exact (rmsk_1 hUxb).symm, trivial⟩
  conv => cbv
  refine Br.no (by simp only [leafs]; rw [hf]; rfl) ?_
  conv => cbv
  refine (LeOut.mk' [0, 1, 2] (by decide) rfl id ?_ ?_).two
  · conv => cbv
    exact ⟨by rw [hc2]; show _ = addI .i64 (addI .i64 cyc 1) c0; rw [addI_eq, addI_eq]; rfl, trivial⟩
  · conv => cbv
    exact ⟨⟨by rw [hpc']; exact (pc4 pc).symm, trivial⟩, trivial⟩
theorem rtail_29f (r : List Int) (pc vec back : Int) (on hdl : Bool) (bd : BoardS) (F) (w cyc x y z n : Int) (hs : RegOk ⟨r, pc, vec, back, on, hdl⟩) (hz0 : r.set 0 0 = r) (hbd : BdOk bd) (hx : 0 ≤ x ∧ x < 16) (hy : 0 ≤ y ∧ y < 16) (hz : 0 ≤ z ∧ z < 16) (hf : pick1 bd.faults bd.nf ≠ 0) (hap : ApIs w (.lit 28) x y z n)
    (v0 : Int) (at_ : Int) (bd' : BoardS) (f0 : Int) (c0 : Int) (c2 : Int) (hv0 : v0 = rgL r y % 256) (hat_ : at_ = w32 (rgL r x + n)) (hbd' : bd' = storeS bd at_ 1 v0) (hf0 : f0 = pick1 bd.faults bd.nf) (hc0 : c0 = pick1 bd.cycles bd.nc) (hc2 : c2 = i64 (i64 (cyc + 1) + c0)) : RTailOk ⟨r, pc, vec, back, on, hdl⟩ bd F w cyc (.lit 0) ⟨3, c2, 0, f0, at_, 0, false, 0, false, 0⟩ ⟨r, pc, vec, back, on, hdl⟩ bd' := by
  refine kcode I13ok 6 ⟨[], 0⟩ tail13_chk ?_
  conv => cbv
  refine OkCall.by_spec hap [] (by decide) (by cbv) trivial ?_
  conv => cbv
  repeat (first | refine And.intro (inR.mk (by omega) (by omega)) ?_ | refine And.intro (nLt.mk (by simp only [leafs]; omega)) ?_)
  conv => cbv
  obtain ⟨xa, hexa⟩ : ∃ v, gi r (toN x) = v := ⟨_, rfl⟩
  have hgxa := hexa
  rw [giR] at hgxa
  have hUxa : U32 xa := by rw [← hgxa]; exact rg_ok hs x
  obtain ⟨xb, hexb⟩ : ∃ v, gi r (toN y) = v := ⟨_, rfl⟩
  have hgxb := hexb
  rw [giR] at hgxb
  have hUxb : U32 xb := by rw [← hgxb]; exact rg_ok hs y
  rw [← hf0] at hf
  rw [hgxa] at hat_
  rw [hgxb] at hv0
  have hsp := store_spec bd at_ 1 v0 hbd.bnd hbd.log
  rw [← hbd', ← hc0, ← hf0] at hsp
  refine OkCall.by_spec hsp [1] (by decide) ?_ (by cbv) ?_
  · conv => cbv
    exact ⟨by show at_ = addI .u32 (gi r (toN x)) (convI .u32 n); rw [hexa, hat_]; exact (adr xa n).symm, by show v0 = remI (gi r (toN y)) 256; rw [hexb, hv0]; exact (rmsk_1 hUxb).symm, trivial⟩
  conv => cbv
  refine Br.yes (by simp only [leafs]; simpa using hf) ?_
  conv => cbv
  refine (LeOut.mk' [0, 1, 2] (by decide) rfl id ?_ ?_).two
  · conv => cbv
    exact ⟨by rw [hc2]; show _ = addI .i64 (addI .i64 cyc 1) c0; rw [addI_eq, addI_eq]; rfl, by show at_ = addI .u32 (gi r (toN x)) (convI .u32 n); rw [hexa, hat_]; exact (adr xa n).symm, trivial⟩
  · conv => cbv
    trivial

theorem rtail_30 (r : List Int) (pc vec back : Int) (on hdl : Bool) (bd : BoardS) (F) (w cyc x y z n : Int) (hs : RegOk ⟨r, pc, vec, back, on, hdl⟩) (hz0 : r.set 0 0 = r) (hbd : BdOk bd) (hx : 0 ≤ x ∧ x < 16) (hy : 0 ≤ y ∧ y < 16) (hz : 0 ≤ z ∧ z < 16) (hf : pick1 bd.faults bd.nf = 0) (hap : ApIs w (.lit 29) x y z n)
    (v0 : Int) (at_ : Int) (bd' : BoardS) (f0 : Int) (c0 : Int) (c2 : Int) (pc' : Int) (hv0 : v0 = rgL r y % 65536) (hat_ : at_ = w32 (rgL r x + n)) (hbd' : bd' = storeS bd at_ 2 v0) (hf0 : f0 = pick1 bd.faults bd.nf) (hc0 : c0 = pick1 bd.cycles bd.nc) (hc2 : c2 = i64 (i64 (cyc + 1) + c0)) (hpc' : pc' = w32 (pc + 4)) : RTailOk ⟨r, pc, vec, back, on, hdl⟩ bd F w cyc (.lit 0) ⟨1, c2, 0, 0, 0, 0, false, 0, false, 0⟩ ⟨r, pc', vec, back, on, hdl⟩ bd' := by
  refine kcode I13ok 6 ⟨[], 0⟩ tail13_chk ?_
  conv => cbv
  refine OkCall.by_spec hap [] (by decide) (by cbv) trivial ?_
  conv => cbv
  repeat (first | refine And.intro (inR.mk (by omega) (by omega)) ?_ | refine And.intro (nLt.mk (by simp only [leafs]; omega)) ?_)
  conv => cbv
  obtain ⟨xa, hexa⟩ : ∃ v, gi r (toN x) = v := ⟨_, rfl⟩
  have hgxa := hexa
  rw [giR] at hgxa
  have hUxa : U32 xa := by rw [← hgxa]; exact rg_ok hs x
  obtain ⟨xb, hexb⟩ : ∃ v, gi r (toN y) = v := ⟨_, rfl⟩
  have hgxb := hexb
  rw [giR] at hgxb
  have hUxb : U32 xb := by rw [← hgxb]; exact rg_ok hs y
  rw [← hf0] at hf
  rw [hgxa] at hat_
  rw [hgxb] at hv0
  have hsp := store_spec bd at_ 2 v0 hbd.bnd hbd.log
  rw [← hbd', ← hc0, ← hf0] at hsp
  refine OkCall.by_spec hsp [1] (by decide) ?_ (by cbv) ?_
  · conv => cbv
    exact ⟨by show at_ = addI .u32 (gi r (toN x)) (convI .u32 n); rw [hexa, hat_]; exact (adr xa n).symm, by show v0 = remI (gi r (toN y)) 65536; rw [hexb, hv0]; exact (rmsk_2 hUxb).symm, trivial⟩
  conv => cbv
  refine Br.no (by simp only [leafs]; rw [hf]; rfl) ?_
  conv => cbv
  refine (LeOut.mk' [0, 1, 2] (by decide) rfl id ?_ ?_).two
  · conv => cbv
    exact ⟨by rw [hc2]; show _ = addI .i64 (addI .i64 cyc 1) c0; rw [addI_eq, addI_eq]; rfl, trivial⟩
  · conv => cbv
    exact ⟨⟨by rw [hpc']; exact (pc4 pc).symm, trivial⟩, trivial⟩
theorem rtail_30f (r : List Int) (pc vec back : Int) (on hdl : Bool) (bd : BoardS) (F) (w cyc x y z n : Int) (hs : RegOk ⟨r, pc, vec, back, on, hdl⟩) (hz0 : r.set 0 0 = r) (hbd : BdOk bd) (hx : 0 ≤ x ∧ x < 16) (hy : 0 ≤ y ∧ y < 16) (hz : 0 ≤ z ∧ z < 16) (hf : pick1 bd.faults bd.nf ≠ 0) (hap : ApIs w (.lit 29) x y z n)
    (v0 : Int) (at_ : Int) (bd' : BoardS) (f0 : Int) (c0 : Int) (c2 : Int) (hv0 : v0 = rgL r y % 65536) (hat_ : at_ = w32 (rgL r x + n)) (hbd' : bd' = storeS bd at_ 2 v0) (hf0 : f0 = pick1 bd.faults bd.nf) (hc0 : c0 = pick1 bd.cycles bd.nc) (hc2 : c2 = i64 (i64 (cyc + 1) + c0)) : RTailOk ⟨r, pc, vec, back, on, hdl⟩ bd F w cyc (.lit 0) ⟨3, c2, 0, f0, at_, 0, false, 0, false, 0⟩ ⟨r, pc, vec, back, on, hdl⟩ bd' := by
  refine kcode I13ok 6 ⟨[], 0⟩ tail13_chk ?_
  conv => cbv
  refine OkCall.by_spec hap [] (by decide) (by cbv) trivial ?_
  conv => cbv
  repeat (first | refine And.intro (inR.mk (by omega) (by omega)) ?_ | refine And.intro (nLt.mk (by simp only [leafs]; omega)) ?_)
  conv => cbv
  obtain ⟨xa, hexa⟩ : ∃ v, gi r (toN x) = v := ⟨_, rfl⟩
  have hgxa := hexa
  rw [giR] at hgxa
  have hUxa : U32 xa := by rw [← hgxa]; exact rg_ok hs x
  obtain ⟨xb, hexb⟩ : ∃ v, gi r (toN y) = v := ⟨_, rfl⟩
  have hgxb := hexb
  rw [giR] at hgxb
  have hUxb : U32 xb := by rw [← hgxb]; exact rg_ok hs y
  rw [← hf0] at hf
  rw [hgxa] at hat_
  rw [hgxb] at hv0
  have hsp := store_spec bd at_ 2 v0 hbd.bnd hbd.log
  rw [← hbd', ← hc0, ← hf0] at hsp
  refine OkCall.by_spec hsp [1] (by decide) ?_ (by cbv) ?_
  · conv => cbv
    exact ⟨by show at_ = addI .u32 (gi r (toN x)) (convI .u32 n); rw [hexa, hat_]; exact (adr xa n).symm, by show v0 = remI (gi r (toN y)) 65536; rw [hexb, hv0]; exact (rmsk_2 hUxb).symm, trivial⟩
  conv => cbv
  refine Br.yes (by simp only [leafs]; simpa using hf) ?_
  conv => cbv
  refine (LeOut.mk' [0, 1, 2] (by decide) rfl id ?_ ?_).two
  · conv => cbv
    exact ⟨by rw [hc2]; show _ = addI .i64 (addI .i64 cyc 1) c0; rw [addI_eq, addI_eq]; rfl, by show at_ = addI .u32 (gi r (toN x)) (convI .u32 n); rw [hexa, hat_]; exact (adr xa n).symm, trivial⟩
  · conv => cbv
    trivial

theorem rtail_31 (r : List Int) (pc vec back : Int) (on hdl : Bool) (bd : BoardS) (F) (w cyc x y z n : Int) (hs : RegOk ⟨r, pc, vec, back, on, hdl⟩) (hz0 : r.set 0 0 = r) (hbd : BdOk bd) (hx : 0 ≤ x ∧ x < 16) (hy : 0 ≤ y ∧ y < 16) (hz : 0 ≤ z ∧ z < 16) (hf : pick1 bd.faults bd.nf = 0) (hap : ApIs w (.lit 30) x y z n)
    (v0 : Int) (at_ : Int) (bd' : BoardS) (f0 : Int) (c0 : Int) (c2 : Int) (pc' : Int) (hv0 : v0 = rgL r y % 4294967296) (hat_ : at_ = w32 (rgL r x + n)) (hbd' : bd' = storeS bd at_ 4 v0) (hf0 : f0 = pick1 bd.faults bd.nf) (hc0 : c0 = pick1 bd.cycles bd.nc) (hc2 : c2 = i64 (i64 (cyc + 1) + c0)) (hpc' : pc' = w32 (pc + 4)) : RTailOk ⟨r, pc, vec, back, on, hdl⟩ bd F w cyc (.lit 0) ⟨1, c2, 0, 0, 0, 0, false, 0, false, 0⟩ ⟨r, pc', vec, back, on, hdl⟩ bd' := by
  refine kcode I13ok 6 ⟨[], 0⟩ tail13_chk ?_
  conv => cbv
  refine OkCall.by_spec hap [] (by decide) (by cbv) trivial ?_
  conv => cbv
  repeat (first | refine And.intro (inR.mk (by omega) (by omega)) ?_ | refine And.intro (nLt.mk (by simp only [leafs]; omega)) ?_)
  conv => cbv
  obtain ⟨xa, hexa⟩ : ∃ v, gi r (toN x) = v := ⟨_, rfl⟩
  have hgxa := hexa
  rw [giR] at hgxa
  have hUxa : U32 xa := by rw [← hgxa]; exact rg_ok hs x
  obtain ⟨xb, hexb⟩ : ∃ v, gi r (toN y) = v := ⟨_, rfl⟩
  have hgxb := hexb
  rw [giR] at hgxb
  have hUxb : U32 xb := by rw [← hgxb]; exact rg_ok hs y
  rw [← hf0] at hf
  rw [hgxa] at hat_
  rw [hgxb] at hv0
  have hsp := store_spec bd at_ 4 v0 hbd.bnd hbd.log
  rw [← hbd', ← hc0, ← hf0] at hsp
  refine OkCall.by_spec hsp [1] (by decide) ?_ (by cbv) ?_
  · conv => cbv
    exact ⟨by show at_ = addI .u32 (gi r (toN x)) (convI .u32 n); rw [hexa, hat_]; exact (adr xa n).symm, by show v0 = gi r (toN y); rw [hexb, hv0]; exact (rmsk_4 hUxb).symm, trivial⟩
  conv => cbv
  refine Br.no (by simp only [leafs]; rw [hf]; rfl) ?_
  conv => cbv
  refine (LeOut.mk' [0, 1, 2] (by decide) rfl id ?_ ?_).two
  · conv => cbv
    exact ⟨by rw [hc2]; show _ = addI .i64 (addI .i64 cyc 1) c0; rw [addI_eq, addI_eq]; rfl, trivial⟩
  · conv => cbv
    exact ⟨⟨by rw [hpc']; exact (pc4 pc).symm, trivial⟩, trivial⟩
theorem rtail_31f (r : List Int) (pc vec back : Int) (on hdl : Bool) (bd : BoardS) (F) (w cyc x y z n : Int) (hs : RegOk ⟨r, pc, vec, back, on, hdl⟩) (hz0 : r.set 0 0 = r) (hbd : BdOk bd) (hx : 0 ≤ x ∧ x < 16) (hy : 0 ≤ y ∧ y < 16) (hz : 0 ≤ z ∧ z < 16) (hf : pick1 bd.faults bd.nf ≠ 0) (hap : ApIs w (.lit 30) x y z n)
    (v0 : Int) (at_ : Int) (bd' : BoardS) (f0 : Int) (c0 : Int) (c2 : Int) (hv0 : v0 = rgL r y % 4294967296) (hat_ : at_ = w32 (rgL r x + n)) (hbd' : bd' = storeS bd at_ 4 v0) (hf0 : f0 = pick1 bd.faults bd.nf) (hc0 : c0 = pick1 bd.cycles bd.nc) (hc2 : c2 = i64 (i64 (cyc + 1) + c0)) : RTailOk ⟨r, pc, vec, back, on, hdl⟩ bd F w cyc (.lit 0) ⟨3, c2, 0, f0, at_, 0, false, 0, false, 0⟩ ⟨r, pc, vec, back, on, hdl⟩ bd' := by
  refine kcode I13ok 6 ⟨[], 0⟩ tail13_chk ?_
  conv => cbv
  refine OkCall.by_spec hap [] (by decide) (by cbv) trivial ?_
  conv => cbv
  repeat (first | refine And.intro (inR.mk (by omega) (by omega)) ?_ | refine And.intro (nLt.mk (by simp only [leafs]; omega)) ?_)
  conv => cbv
  obtain ⟨xa, hexa⟩ : ∃ v, gi r (toN x) = v := ⟨_, rfl⟩
  have hgxa := hexa
  rw [giR] at hgxa
  have hUxa : U32 xa := by rw [← hgxa]; exact rg_ok hs x
  obtain ⟨xb, hexb⟩ : ∃ v, gi r (toN y) = v := ⟨_, rfl⟩
  have hgxb := hexb
  rw [giR] at hgxb
  have hUxb : U32 xb := by rw [← hgxb]; exact rg_ok hs y
  rw [← hf0] at hf
  rw [hgxa] at hat_
  rw [hgxb] at hv0
  have hsp := store_spec bd at_ 4 v0 hbd.bnd hbd.log
  rw [← hbd', ← hc0, ← hf0] at hsp
  refine OkCall.by_spec hsp [1] (by decide) ?_ (by cbv) ?_
  · conv => cbv
    exact ⟨by show at_ = addI .u32 (gi r (toN x)) (convI .u32 n); rw [hexa, hat_]; exact (adr xa n).symm, by show v0 = gi r (toN y); rw [hexb, hv0]; exact (rmsk_4 hUxb).symm, trivial⟩
  conv => cbv
  refine Br.yes (by simp only [leafs]; simpa using hf) ?_
  conv => cbv
  refine (LeOut.mk' [0, 1, 2] (by decide) rfl id ?_ ?_).two
  · conv => cbv
    exact ⟨by rw [hc2]; show _ = addI .i64 (addI .i64 cyc 1) c0; rw [addI_eq, addI_eq]; rfl, by show at_ = addI .u32 (gi r (toN x)) (convI .u32 n); rw [hexa, hat_]; exact (adr xa n).symm, trivial⟩
  · conv => cbv
    trivial

theorem rtail_32 (r : List Int) (pc vec back : Int) (on hdl : Bool) (bd : BoardS) (F) (w cyc x y z n : Int) (hs : RegOk ⟨r, pc, vec, back, on, hdl⟩) (hz0 : r.set 0 0 = r) (hbd : BdOk bd) (hx : 0 ≤ x ∧ x < 16) (hy : 0 ≤ y ∧ y < 16) (hz : 0 ≤ z ∧ z < 16) (hap : ApIs w (.lit 31) x y z n)
    (pc' : Int) (cyc' : Int) (hpc' : pc' = if brF 32 (rgL r x) (rgL r y) then w32 (pc + 4 * n) else w32 (pc + 4)) (hcyc' : cyc' = i64 (cyc + 1)) : RTailOk ⟨r, pc, vec, back, on, hdl⟩ bd F w cyc (.lit 0) ⟨1, cyc', 0, 0, 0, 0, false, 0, false, 0⟩ ⟨r, pc', vec, back, on, hdl⟩ bd := by
  refine kcode I13ok 6 ⟨[], 0⟩ tail13_chk ?_
  conv => cbv
  refine OkCall.by_spec hap [] (by decide) (by cbv) trivial ?_
  conv => cbv
  repeat (first | refine And.intro (inR.mk (by omega) (by omega)) ?_ | refine And.intro (nLt.mk (by simp only [leafs]; omega)) ?_)
  conv => cbv
  obtain ⟨xa, hexa⟩ : ∃ v, gi r (toN x) = v := ⟨_, rfl⟩
  have hgxa := hexa
  rw [giR] at hgxa
  have hUxa : U32 xa := by rw [← hgxa]; exact rg_ok hs x
  obtain ⟨xb, hexb⟩ : ∃ v, gi r (toN y) = v := ⟨_, rfl⟩
  have hgxb := hexb
  rw [giR] at hgxb
  have hUxb : U32 xb := by rw [← hgxb]; exact rg_ok hs y
  rw [hgxa, hgxb] at hpc'
  refine Br.mk (fun hc => ?_) (fun hc => ?_)
  · replace hc : eqI (gi r (toN x)) (gi r (toN y)) = true := hc
    rw [hexa, hexb, brc_32] at hc
    conv => cbv
    refine (LeOut.mk' [0, 1, 2] (by decide) rfl id ?_ ?_).two
    · conv => cbv
      exact ⟨by rw [hcyc']; show _ = addI .i64 cyc 1; rw [addI_eq]; rfl, trivial⟩
    · conv => cbv
      exact ⟨⟨by rw [hpc', if_pos hc]; exact (brR pc n).symm, trivial⟩, trivial⟩
  · replace hc : eqI (gi r (toN x)) (gi r (toN y)) = false := hc
    rw [hexa, hexb, brc_32] at hc
    conv => cbv
    refine (LeOut.mk' [0, 1, 2] (by decide) rfl id ?_ ?_).two
    · conv => cbv
      exact ⟨by rw [hcyc']; show _ = addI .i64 cyc 1; rw [addI_eq]; rfl, trivial⟩
    · conv => cbv
      exact ⟨⟨by rw [hpc', if_neg (by rw [hc]; decide)]; exact (pc4 pc).symm, trivial⟩, trivial⟩

theorem rtail_33 (r : List Int) (pc vec back : Int) (on hdl : Bool) (bd : BoardS) (F) (w cyc x y z n : Int) (hs : RegOk ⟨r, pc, vec, back, on, hdl⟩) (hz0 : r.set 0 0 = r) (hbd : BdOk bd) (hx : 0 ≤ x ∧ x < 16) (hy : 0 ≤ y ∧ y < 16) (hz : 0 ≤ z ∧ z < 16) (hap : ApIs w (.lit 32) x y z n)
    (pc' : Int) (cyc' : Int) (hpc' : pc' = if brF 33 (rgL r x) (rgL r y) then w32 (pc + 4 * n) else w32 (pc + 4)) (hcyc' : cyc' = i64 (cyc + 1)) : RTailOk ⟨r, pc, vec, back, on, hdl⟩ bd F w cyc (.lit 0) ⟨1, cyc', 0, 0, 0, 0, false, 0, false, 0⟩ ⟨r, pc', vec, back, on, hdl⟩ bd := by
  refine kcode I13ok 6 ⟨[], 0⟩ tail13_chk ?_
  conv => cbv
  refine OkCall.by_spec hap [] (by decide) (by cbv) trivial ?_
  conv => cbv
  repeat (first | refine And.intro (inR.mk (by omega) (by omega)) ?_ | refine And.intro (nLt.mk (by simp only [leafs]; omega)) ?_)
  conv => cbv
  obtain ⟨xa, hexa⟩ : ∃ v, gi r (toN x) = v := ⟨_, rfl⟩
  have hgxa := hexa
  rw [giR] at hgxa
  have hUxa : U32 xa := by rw [← hgxa]; exact rg_ok hs x
  obtain ⟨xb, hexb⟩ : ∃ v, gi r (toN y) = v := ⟨_, rfl⟩
  have hgxb := hexb
  rw [giR] at hgxb
  have hUxb : U32 xb := by rw [← hgxb]; exact rg_ok hs y
  rw [hgxa, hgxb] at hpc'
  refine Br.mk (fun hc => ?_) (fun hc => ?_)
  · replace hc : notB (eqI (gi r (toN x)) (gi r (toN y))) = true := hc
    rw [hexa, hexb, brc_33] at hc
    conv => cbv
    refine (LeOut.mk' [0, 1, 2] (by decide) rfl id ?_ ?_).two
    · conv => cbv
      exact ⟨by rw [hcyc']; show _ = addI .i64 cyc 1; rw [addI_eq]; rfl, trivial⟩
    · conv => cbv
      exact ⟨⟨by rw [hpc', if_pos hc]; exact (brR pc n).symm, trivial⟩, trivial⟩
  · replace hc : notB (eqI (gi r (toN x)) (gi r (toN y))) = false := hc
    rw [hexa, hexb, brc_33] at hc
    conv => cbv
    refine (LeOut.mk' [0, 1, 2] (by decide) rfl id ?_ ?_).two
    · conv => cbv
      exact ⟨by rw [hcyc']; show _ = addI .i64 cyc 1; rw [addI_eq]; rfl, trivial⟩
    · conv => cbv
      exact ⟨⟨by rw [hpc', if_neg (by rw [hc]; decide)]; exact (pc4 pc).symm, trivial⟩, trivial⟩

theorem rtail_34 (r : List Int) (pc vec back : Int) (on hdl : Bool) (bd : BoardS) (F) (w cyc x y z n : Int) (hs : RegOk ⟨r, pc, vec, back, on, hdl⟩) (hz0 : r.set 0 0 = r) (hbd : BdOk bd) (hx : 0 ≤ x ∧ x < 16) (hy : 0 ≤ y ∧ y < 16) (hz : 0 ≤ z ∧ z < 16) (hap : ApIs w (.lit 33) x y z n)
    (pc' : Int) (cyc' : Int) (hpc' : pc' = if brF 34 (rgL r x) (rgL r y) then w32 (pc + 4 * n) else w32 (pc + 4)) (hcyc' : cyc' = i64 (cyc + 1)) : RTailOk ⟨r, pc, vec, back, on, hdl⟩ bd F w cyc (.lit 0) ⟨1, cyc', 0, 0, 0, 0, false, 0, false, 0⟩ ⟨r, pc', vec, back, on, hdl⟩ bd := by
  refine kcode I13ok 6 ⟨[], 0⟩ tail13_chk ?_
  conv => cbv
  refine OkCall.by_spec hap [] (by decide) (by cbv) trivial ?_
  conv => cbv
  repeat (first | refine And.intro (inR.mk (by omega) (by omega)) ?_ | refine And.intro (nLt.mk (by simp only [leafs]; omega)) ?_)
  conv => cbv
  obtain ⟨xa, hexa⟩ : ∃ v, gi r (toN x) = v := ⟨_, rfl⟩
  have hgxa := hexa
  rw [giR] at hgxa
  have hUxa : U32 xa := by rw [← hgxa]; exact rg_ok hs x
  obtain ⟨xb, hexb⟩ : ∃ v, gi r (toN y) = v := ⟨_, rfl⟩
  have hgxb := hexb
  rw [giR] at hgxb
  have hUxb : U32 xb := by rw [← hgxb]; exact rg_ok hs y
  rw [hgxa, hgxb] at hpc'
  refine OkCall.by_spec (sgn_spec hUxa rfl) [] (by decide) ?_ trivial ?_
  · conv => cbv
    exact ⟨by show xa = gi r (toN x); exact hexa.symm, trivial⟩
  generalize hsa : s32 xa = sa
  conv => cbv
  refine OkCall.by_spec (sgn_spec hUxb rfl) [] (by decide) ?_ trivial ?_
  · conv => cbv
    exact ⟨by show xb = gi r (toN y); exact hexb.symm, trivial⟩
  generalize hsb : s32 xb = sb
  conv => cbv
  refine Br.mk (fun hc => ?_) (fun hc => ?_)
  · replace hc : ltI sa sb = true := hc
    rw [brr_34 hsa hsb] at hc
    conv => cbv
    refine (LeOut.mk' [0, 1, 2] (by decide) rfl id ?_ ?_).two
    · conv => cbv
      exact ⟨by rw [hcyc']; show _ = addI .i64 cyc 1; rw [addI_eq]; rfl, trivial⟩
    · conv => cbv
      exact ⟨⟨by rw [hpc', if_pos hc]; exact (brR pc n).symm, trivial⟩, trivial⟩
  · replace hc : ltI sa sb = false := hc
    rw [brr_34 hsa hsb] at hc
    conv => cbv
    refine (LeOut.mk' [0, 1, 2] (by decide) rfl id ?_ ?_).two
    · conv => cbv
      exact ⟨by rw [hcyc']; show _ = addI .i64 cyc 1; rw [addI_eq]; rfl, trivial⟩
    · conv => cbv
      exact ⟨⟨by rw [hpc', if_neg (by rw [hc]; decide)]; exact (pc4 pc).symm, trivial⟩, trivial⟩

theorem rtail_35 (r : List Int) (pc vec back : Int) (on hdl : Bool) (bd : BoardS) (F) (w cyc x y z n : Int) (hs : RegOk ⟨r, pc, vec, back, on, hdl⟩) (hz0 : r.set 0 0 = r) (hbd : BdOk bd) (hx : 0 ≤ x ∧ x < 16) (hy : 0 ≤ y ∧ y < 16) (hz : 0 ≤ z ∧ z < 16) (hap : ApIs w (.lit 34) x y z n)
    (pc' : Int) (cyc' : Int) (hpc' : pc' = if brF 35 (rgL r x) (rgL r y) then w32 (pc + 4 * n) else w32 (pc + 4)) (hcyc' : cyc' = i64 (cyc + 1)) : RTailOk ⟨r, pc, vec, back, on, hdl⟩ bd F w cyc (.lit 0) ⟨1, cyc', 0, 0, 0, 0, false, 0, false, 0⟩ ⟨r, pc', vec, back, on, hdl⟩ bd := by
  refine kcode I13ok 6 ⟨[], 0⟩ tail13_chk ?_
  conv => cbv
  refine OkCall.by_spec hap [] (by decide) (by cbv) trivial ?_
  conv => cbv
  repeat (first | refine And.intro (inR.mk (by omega) (by omega)) ?_ | refine And.intro (nLt.mk (by simp only [leafs]; omega)) ?_)
  conv => cbv
  obtain ⟨xa, hexa⟩ : ∃ v, gi r (toN x) = v := ⟨_, rfl⟩
  have hgxa := hexa
  rw [giR] at hgxa
  have hUxa : U32 xa := by rw [← hgxa]; exact rg_ok hs x
  obtain ⟨xb, hexb⟩ : ∃ v, gi r (toN y) = v := ⟨_, rfl⟩
  have hgxb := hexb
  rw [giR] at hgxb
  have hUxb : U32 xb := by rw [← hgxb]; exact rg_ok hs y
  rw [hgxa, hgxb] at hpc'
  refine OkCall.by_spec (sgn_spec hUxa rfl) [] (by decide) ?_ trivial ?_
  · conv => cbv
    exact ⟨by show xa = gi r (toN x); exact hexa.symm, trivial⟩
  generalize hsa : s32 xa = sa
  conv => cbv
  refine OkCall.by_spec (sgn_spec hUxb rfl) [] (by decide) ?_ trivial ?_
  · conv => cbv
    exact ⟨by show xb = gi r (toN y); exact hexb.symm, trivial⟩
  generalize hsb : s32 xb = sb
  conv => cbv
  refine Br.mk (fun hc => ?_) (fun hc => ?_)
  · replace hc : leI sb sa = true := hc
    rw [brr_35 hsa hsb] at hc
    conv => cbv
    refine (LeOut.mk' [0, 1, 2] (by decide) rfl id ?_ ?_).two
    · conv => cbv
      exact ⟨by rw [hcyc']; show _ = addI .i64 cyc 1; rw [addI_eq]; rfl, trivial⟩
    · conv => cbv
      exact ⟨⟨by rw [hpc', if_pos hc]; exact (brR pc n).symm, trivial⟩, trivial⟩
  · replace hc : leI sb sa = false := hc
    rw [brr_35 hsa hsb] at hc
    conv => cbv
    refine (LeOut.mk' [0, 1, 2] (by decide) rfl id ?_ ?_).two
    · conv => cbv
      exact ⟨by rw [hcyc']; show _ = addI .i64 cyc 1; rw [addI_eq]; rfl, trivial⟩
    · conv => cbv
      exact ⟨⟨by rw [hpc', if_neg (by rw [hc]; decide)]; exact (pc4 pc).symm, trivial⟩, trivial⟩

theorem rtail_36 (r : List Int) (pc vec back : Int) (on hdl : Bool) (bd : BoardS) (F) (w cyc x y z n : Int) (hs : RegOk ⟨r, pc, vec, back, on, hdl⟩) (hz0 : r.set 0 0 = r) (hbd : BdOk bd) (hx : 0 ≤ x ∧ x < 16) (hy : 0 ≤ y ∧ y < 16) (hz : 0 ≤ z ∧ z < 16) (hap : ApIs w (.lit 35) x y z n)
    (pc' : Int) (cyc' : Int) (hpc' : pc' = if brF 36 (rgL r x) (rgL r y) then w32 (pc + 4 * n) else w32 (pc + 4)) (hcyc' : cyc' = i64 (cyc + 1)) : RTailOk ⟨r, pc, vec, back, on, hdl⟩ bd F w cyc (.lit 0) ⟨1, cyc', 0, 0, 0, 0, false, 0, false, 0⟩ ⟨r, pc', vec, back, on, hdl⟩ bd := by
  refine kcode I13ok 6 ⟨[], 0⟩ tail13_chk ?_
  conv => cbv
  refine OkCall.by_spec hap [] (by decide) (by cbv) trivial ?_
  conv => cbv
  repeat (first | refine And.intro (inR.mk (by omega) (by omega)) ?_ | refine And.intro (nLt.mk (by simp only [leafs]; omega)) ?_)
  conv => cbv
  obtain ⟨xa, hexa⟩ : ∃ v, gi r (toN x) = v := ⟨_, rfl⟩
  have hgxa := hexa
  rw [giR] at hgxa
  have hUxa : U32 xa := by rw [← hgxa]; exact rg_ok hs x
  obtain ⟨xb, hexb⟩ : ∃ v, gi r (toN y) = v := ⟨_, rfl⟩
  have hgxb := hexb
  rw [giR] at hgxb
  have hUxb : U32 xb := by rw [← hgxb]; exact rg_ok hs y
  rw [hgxa, hgxb] at hpc'
  refine Br.mk (fun hc => ?_) (fun hc => ?_)
  · replace hc : ltI (gi r (toN x)) (gi r (toN y)) = true := hc
    rw [hexa, hexb, brc_36] at hc
    conv => cbv
    refine (LeOut.mk' [0, 1, 2] (by decide) rfl id ?_ ?_).two
    · conv => cbv
      exact ⟨by rw [hcyc']; show _ = addI .i64 cyc 1; rw [addI_eq]; rfl, trivial⟩
    · conv => cbv
      exact ⟨⟨by rw [hpc', if_pos hc]; exact (brR pc n).symm, trivial⟩, trivial⟩
  · replace hc : ltI (gi r (toN x)) (gi r (toN y)) = false := hc
    rw [hexa, hexb, brc_36] at hc
    conv => cbv
    refine (LeOut.mk' [0, 1, 2] (by decide) rfl id ?_ ?_).two
    · conv => cbv
      exact ⟨by rw [hcyc']; show _ = addI .i64 cyc 1; rw [addI_eq]; rfl, trivial⟩
    · conv => cbv
      exact ⟨⟨by rw [hpc', if_neg (by rw [hc]; decide)]; exact (pc4 pc).symm, trivial⟩, trivial⟩

theorem rtail_37 (r : List Int) (pc vec back : Int) (on hdl : Bool) (bd : BoardS) (F) (w cyc x y z n : Int) (hs : RegOk ⟨r, pc, vec, back, on, hdl⟩) (hz0 : r.set 0 0 = r) (hbd : BdOk bd) (hx : 0 ≤ x ∧ x < 16) (hy : 0 ≤ y ∧ y < 16) (hz : 0 ≤ z ∧ z < 16) (hap : ApIs w (.lit 36) x y z n)
    (pc' : Int) (cyc' : Int) (hpc' : pc' = if brF 37 (rgL r x) (rgL r y) then w32 (pc + 4 * n) else w32 (pc + 4)) (hcyc' : cyc' = i64 (cyc + 1)) : RTailOk ⟨r, pc, vec, back, on, hdl⟩ bd F w cyc (.lit 0) ⟨1, cyc', 0, 0, 0, 0, false, 0, false, 0⟩ ⟨r, pc', vec, back, on, hdl⟩ bd := by
  refine kcode I13ok 6 ⟨[], 0⟩ tail13_chk ?_
  conv => cbv
  refine OkCall.by_spec hap [] (by decide) (by cbv) trivial ?_
  conv => cbv
  repeat (first | refine And.intro (inR.mk (by omega) (by omega)) ?_ | refine And.intro (nLt.mk (by simp only [leafs]; omega)) ?_)
  conv => cbv
  obtain ⟨xa, hexa⟩ : ∃ v, gi r (toN x) = v := ⟨_, rfl⟩
  have hgxa := hexa
  rw [giR] at hgxa
  have hUxa : U32 xa := by rw [← hgxa]; exact rg_ok hs x
  obtain ⟨xb, hexb⟩ : ∃ v, gi r (toN y) = v := ⟨_, rfl⟩
  have hgxb := hexb
  rw [giR] at hgxb
  have hUxb : U32 xb := by rw [← hgxb]; exact rg_ok hs y
  rw [hgxa, hgxb] at hpc'
  refine Br.mk (fun hc => ?_) (fun hc => ?_)
  · replace hc : leI (gi r (toN y)) (gi r (toN x)) = true := hc
    rw [hexa, hexb, brc_37] at hc
    conv => cbv
    refine (LeOut.mk' [0, 1, 2] (by decide) rfl id ?_ ?_).two
    · conv => cbv
      exact ⟨by rw [hcyc']; show _ = addI .i64 cyc 1; rw [addI_eq]; rfl, trivial⟩
    · conv => cbv
      exact ⟨⟨by rw [hpc', if_pos hc]; exact (brR pc n).symm, trivial⟩, trivial⟩
  · replace hc : leI (gi r (toN y)) (gi r (toN x)) = false := hc
    rw [hexa, hexb, brc_37] at hc
    conv => cbv
    refine (LeOut.mk' [0, 1, 2] (by decide) rfl id ?_ ?_).two
    · conv => cbv
      exact ⟨by rw [hcyc']; show _ = addI .i64 cyc 1; rw [addI_eq]; rfl, trivial⟩
    · conv => cbv
      exact ⟨⟨by rw [hpc', if_neg (by rw [hc]; decide)]; exact (pc4 pc).symm, trivial⟩, trivial⟩

end Go.Proofs.YtkljgpepogkgdaaDoor

namespace Go.Proofs.YtkljgpepogkgdaaDoor
open Go Go.Vex
set_option maxRecDepth 20000
set_option maxHeartbeats 4000000
theorem rtail_38 (r : List Int) (pc vec back : Int) (on hdl : Bool) (bd : BoardS) (F) (w cyc x y z n : Int) (hs : RegOk ⟨r, pc, vec, back, on, hdl⟩) (hz0 : r.set 0 0 = r) (hbd : BdOk bd) (hx : 0 ≤ x ∧ x < 16) (hy : 0 ≤ y ∧ y < 16) (hz : 0 ≤ z ∧ z < 16) (hap : ApIs w (.lit 37) x y z n)
    (r' : List Int) (pc' : Int) (cyc' : Int) (hr' : r' = setR r x (w32 (pc + 4))) (hpc' : pc' = w32 (pc + 4 * n)) (hcyc' : cyc' = i64 (cyc + 1)) : RTailOk ⟨r, pc, vec, back, on, hdl⟩ bd F w cyc (.lit 0) ⟨1, cyc', 0, 0, 0, 0, false, 0, false, 0⟩ ⟨r', pc', vec, back, on, hdl⟩ bd := by
  refine kcode I13ok 6 ⟨[], 0⟩ tail13_chk ?_
  conv => cbv
  refine OkCall.by_spec hap [] (by decide) (by cbv) trivial ?_
  conv => cbv
  refine Br.mk (fun hc => ?_) (fun hc => ?_)
  · replace hc : notB (eqI x 0) = true := hc
    rw [notB_eq, eqI_eq, Bool.not_eq_true', beq_eq_false_iff_ne] at hc
    conv => cbv
    repeat (first | refine And.intro (inR.mk (by omega) (by omega)) ?_ | refine And.intro (nLt.mk (by simp only [leafs]; omega)) ?_)
    conv => cbv
    refine (LeOut.mk' [0, 1, 2] (by decide) rfl id ?_ ?_).two
    · conv => cbv
      exact ⟨by rw [hcyc']; show _ = addI .i64 cyc 1; rw [addI_eq]; rfl, trivial⟩
    · conv => cbv
      refine ⟨⟨?_, by rw [hpc']; exact (brR pc n).symm, trivial⟩, trivial⟩
      show r' = setI r (toN x) (addI .u32 pc 4)
      rw [setI_eq, toN_eq, hr', setR_ne hz0 hx.1 hc, pc4]
  · replace hc : notB (eqI x 0) = false := hc
    rw [notB_eq, eqI_eq, Bool.not_eq_false', beq_iff_eq] at hc
    conv => cbv
    repeat (first | refine And.intro (inR.mk (by omega) (by omega)) ?_ | refine And.intro (nLt.mk (by simp only [leafs]; omega)) ?_)
    conv => cbv
    refine (LeOut.mk' [0, 1, 2] (by decide) rfl id ?_ ?_).two
    · conv => cbv
      exact ⟨by rw [hcyc']; show _ = addI .i64 cyc 1; rw [addI_eq]; rfl, trivial⟩
    · conv => cbv
      refine ⟨⟨?_, by rw [hpc']; exact (brR pc n).symm, trivial⟩, trivial⟩
      rw [hr', hc, setR_zero hz0]

theorem rtail_39 (r : List Int) (pc vec back : Int) (on hdl : Bool) (bd : BoardS) (F) (w cyc x y z n : Int) (hs : RegOk ⟨r, pc, vec, back, on, hdl⟩) (hz0 : r.set 0 0 = r) (hbd : BdOk bd) (hx : 0 ≤ x ∧ x < 16) (hy : 0 ≤ y ∧ y < 16) (hz : 0 ≤ z ∧ z < 16) (hap : ApIs w (.lit 38) x y z n)
    (r' : List Int) (pc' : Int) (cyc' : Int) (hr' : r' = setR r x (w32 (pc + 4))) (hpc' : pc' = w32 (rgL r y + n)) (hcyc' : cyc' = i64 (cyc + 1)) : RTailOk ⟨r, pc, vec, back, on, hdl⟩ bd F w cyc (.lit 0) ⟨1, cyc', 0, 0, 0, 0, false, 0, false, 0⟩ ⟨r', pc', vec, back, on, hdl⟩ bd := by
  refine kcode I13ok 6 ⟨[], 0⟩ tail13_chk ?_
  conv => cbv
  refine OkCall.by_spec hap [] (by decide) (by cbv) trivial ?_
  conv => cbv
  repeat (first | refine And.intro (inR.mk (by omega) (by omega)) ?_ | refine And.intro (nLt.mk (by simp only [leafs]; omega)) ?_)
  conv => cbv
  obtain ⟨xa, hexa⟩ : ∃ v, gi r (toN y) = v := ⟨_, rfl⟩
  have hgxa := hexa
  rw [giR] at hgxa
  have hUxa : U32 xa := by rw [← hgxa]; exact rg_ok hs y
  rw [hgxa] at hpc'
  refine Br.mk (fun hc => ?_) (fun hc => ?_)
  · replace hc : notB (eqI x 0) = true := hc
    rw [notB_eq, eqI_eq, Bool.not_eq_true', beq_eq_false_iff_ne] at hc
    conv => cbv
    repeat (first | refine And.intro (inR.mk (by omega) (by omega)) ?_ | refine And.intro (nLt.mk (by simp only [leafs]; omega)) ?_)
    conv => cbv
    refine (LeOut.mk' [0, 1, 2] (by decide) rfl id ?_ ?_).two
    · conv => cbv
      exact ⟨by rw [hcyc']; show _ = addI .i64 cyc 1; rw [addI_eq]; rfl, trivial⟩
    · conv => cbv
      refine ⟨⟨?_, by show pc' = addI .u32 (gi r (toN y)) (convI .u32 n); rw [hexa, hpc']; exact (adr xa n).symm, trivial⟩, trivial⟩
      show r' = setI r (toN x) (addI .u32 pc 4)
      rw [setI_eq, toN_eq, hr', setR_ne hz0 hx.1 hc, pc4]
  · replace hc : notB (eqI x 0) = false := hc
    rw [notB_eq, eqI_eq, Bool.not_eq_false', beq_iff_eq] at hc
    conv => cbv
    repeat (first | refine And.intro (inR.mk (by omega) (by omega)) ?_ | refine And.intro (nLt.mk (by simp only [leafs]; omega)) ?_)
    conv => cbv
    refine (LeOut.mk' [0, 1, 2] (by decide) rfl id ?_ ?_).two
    · conv => cbv
      exact ⟨by rw [hcyc']; show _ = addI .i64 cyc 1; rw [addI_eq]; rfl, trivial⟩
    · conv => cbv
      refine ⟨⟨?_, by show pc' = addI .u32 (gi r (toN y)) (convI .u32 n); rw [hexa, hpc']; exact (adr xa n).symm, trivial⟩, trivial⟩
      rw [hr', hc, setR_zero hz0]

theorem rtail_40 (r : List Int) (pc vec back : Int) (on hdl : Bool) (bd : BoardS) (F) (w cyc x y z n : Int) (hs : RegOk ⟨r, pc, vec, back, on, hdl⟩) (hz0 : r.set 0 0 = r) (hbd : BdOk bd) (hx : 0 ≤ x ∧ x < 16) (hy : 0 ≤ y ∧ y < 16) (hz : 0 ≤ z ∧ z < 16) (hn : U32 n) (hap : ApIs w (.lit 39) x y z n)
    (pc' : Int) (cyc' : Int) (hpc' : pc' = w32 (pc + 4)) (hcyc' : cyc' = i64 (cyc + 1)) : RTailOk ⟨r, pc, vec, back, on, hdl⟩ bd F w cyc (.lit 0) ⟨2, cyc', n, 0, 0, 0, false, 0, false, 0⟩ ⟨r, pc', vec, back, on, hdl⟩ bd := by
  refine kcode I13ok 6 ⟨[], 0⟩ tail13_chk ?_
  conv => cbv
  refine OkCall.by_spec hap [] (by decide) (by cbv) trivial ?_
  conv => cbv
  refine (LeOut.mk' [0, 1, 2] (by decide) rfl id ?_ ?_).two
  · conv => cbv
    exact ⟨by rw [hcyc']; show _ = addI .i64 cyc 1; rw [addI_eq]; rfl, by show n = convI .u32 n; rw [conv_imm]; unfold w32; have := hn.1; have := hn.2; omega, trivial⟩
  · conv => cbv
    exact ⟨⟨by rw [hpc']; exact (pc4 pc).symm, trivial⟩, trivial⟩

theorem rtail_41 (r : List Int) (pc vec back : Int) (on hdl : Bool) (bd : BoardS) (F) (w cyc x y z n : Int) (hs : RegOk ⟨r, pc, vec, back, on, hdl⟩) (hz0 : r.set 0 0 = r) (hbd : BdOk bd) (hx : 0 ≤ x ∧ x < 16) (hy : 0 ≤ y ∧ y < 16) (hz : 0 ≤ z ∧ z < 16) (hap : ApIs w (.lit 40) x y z n)
    (r' : List Int) (pc' : Int) (cyc' : Int) (t' : Int) (bd' : BoardS) (hr' : r' = setR r x (w32 bd.time)) (hpc' : pc' = w32 (pc + 4)) (hcyc' : cyc' = i64 (cyc + 1)) (ht' : t' = bd.time) (hbd' : bd' = clockS bd) : RTailOk ⟨r, pc, vec, back, on, hdl⟩ bd F w cyc (.lit 0) ⟨1, cyc', 0, 0, 0, 0, false, 0, true, t'⟩ ⟨r', pc', vec, back, on, hdl⟩ bd' := by
  refine kcode I13ok 6 ⟨[], 0⟩ tail13_chk ?_
  conv => cbv
  refine OkCall.by_spec hap [] (by decide) (by cbv) trivial ?_
  conv => cbv
  have hsp := clock_spec bd hbd.bnd hbd.log hbd.time
  have hT : 0 ≤ t' ∧ t' < 18446744073709551616 := by rw [ht']; exact hbd.time
  rw [← hbd', ← ht'] at hsp
  rw [← ht'] at hr'
  refine OkCall.by_spec hsp [1] (by decide) (by cbv) (by cbv) ?_
  conv => cbv
  refine Br.mk (fun hc => ?_) (fun hc => ?_)
  · replace hc : notB (eqI x 0) = true := hc
    rw [notB_eq, eqI_eq, Bool.not_eq_true', beq_eq_false_iff_ne] at hc
    conv => cbv
    repeat (first | refine And.intro (inR.mk (by omega) (by omega)) ?_ | refine And.intro (nLt.mk (by simp only [leafs]; omega)) ?_)
    conv => cbv
    refine (LeOut.mk' [0, 1, 2] (by decide) rfl id ?_ ?_).two
    · conv => cbv
      exact ⟨by rw [hcyc']; show _ = addI .i64 cyc 1; rw [addI_eq]; rfl, trivial⟩
    · conv => cbv
      refine ⟨⟨?_, by rw [hpc']; exact (pc4 pc).symm, trivial⟩, trivial⟩
      show r' = setI r (toN x) (convI .u32 (remI t' 4294967296))
      rw [setI_eq, toN_eq, hr', setR_ne hz0 hx.1 hc, clk_r hT]
  · replace hc : notB (eqI x 0) = false := hc
    rw [notB_eq, eqI_eq, Bool.not_eq_false', beq_iff_eq] at hc
    conv => cbv
    repeat (first | refine And.intro (inR.mk (by omega) (by omega)) ?_ | refine And.intro (nLt.mk (by simp only [leafs]; omega)) ?_)
    conv => cbv
    refine (LeOut.mk' [0, 1, 2] (by decide) rfl id ?_ ?_).two
    · conv => cbv
      exact ⟨by rw [hcyc']; show _ = addI .i64 cyc 1; rw [addI_eq]; rfl, trivial⟩
    · conv => cbv
      refine ⟨⟨?_, by rw [hpc']; exact (pc4 pc).symm, trivial⟩, trivial⟩
      rw [hr', hc, setR_zero hz0]

theorem rtail_42 (r : List Int) (pc vec back : Int) (on hdl : Bool) (bd : BoardS) (F) (w cyc x y z n : Int) (hs : RegOk ⟨r, pc, vec, back, on, hdl⟩) (hz0 : r.set 0 0 = r) (hbd : BdOk bd) (hx : 0 ≤ x ∧ x < 16) (hy : 0 ≤ y ∧ y < 16) (hz : 0 ≤ z ∧ z < 16) (hap : ApIs w (.lit 41) x y z n)
    (pc' : Int) (cyc' : Int) (hpc' : pc' = w32 (pc + 4)) (hcyc' : cyc' = i64 (cyc + 1)) : RTailOk ⟨r, pc, vec, back, on, hdl⟩ bd F w cyc (.lit 0) ⟨5, cyc', 0, 0, 0, 0, false, 0, false, 0⟩ ⟨r, pc', vec, back, on, hdl⟩ bd := by
  refine kcode I13ok 6 ⟨[], 0⟩ tail13_chk ?_
  conv => cbv
  refine OkCall.by_spec hap [] (by decide) (by cbv) trivial ?_
  conv => cbv
  refine (LeOut.mk' [0, 1, 2] (by decide) rfl id ?_ ?_).two
  · conv => cbv
    exact ⟨by rw [hcyc']; show _ = addI .i64 cyc 1; rw [addI_eq]; rfl, trivial⟩
  · conv => cbv
    exact ⟨⟨by rw [hpc']; exact (pc4 pc).symm, trivial⟩, trivial⟩

theorem rtail_43 (r : List Int) (pc vec back : Int) (on hdl : Bool) (bd : BoardS) (F) (w cyc x y z n : Int) (hs : RegOk ⟨r, pc, vec, back, on, hdl⟩) (hz0 : r.set 0 0 = r) (hbd : BdOk bd) (hx : 0 ≤ x ∧ x < 16) (hy : 0 ≤ y ∧ y < 16) (hz : 0 ≤ z ∧ z < 16) (hap : ApIs w (.lit 42) x y z n)
    (pc' : Int) (cyc' : Int) (hpc' : pc' = w32 (pc + 4)) (hcyc' : cyc' = i64 (cyc + 1)) : RTailOk ⟨r, pc, vec, back, on, hdl⟩ bd F w cyc (.lit 0) ⟨1, cyc', 0, 0, 0, 0, false, 0, false, 0⟩ ⟨r, pc', vec, back, true, hdl⟩ bd := by
  refine kcode I13ok 6 ⟨[], 0⟩ tail13_chk ?_
  conv => cbv
  refine OkCall.by_spec hap [] (by decide) (by cbv) trivial ?_
  conv => cbv
  refine (LeOut.mk' [0, 1, 2] (by decide) rfl id ?_ ?_).two
  · conv => cbv
    exact ⟨by rw [hcyc']; show _ = addI .i64 cyc 1; rw [addI_eq]; rfl, trivial⟩
  · conv => cbv
    exact ⟨⟨by rw [hpc']; exact (pc4 pc).symm, trivial⟩, trivial⟩

theorem rtail_44 (r : List Int) (pc vec back : Int) (on hdl : Bool) (bd : BoardS) (F) (w cyc x y z n : Int) (hs : RegOk ⟨r, pc, vec, back, on, hdl⟩) (hz0 : r.set 0 0 = r) (hbd : BdOk bd) (hx : 0 ≤ x ∧ x < 16) (hy : 0 ≤ y ∧ y < 16) (hz : 0 ≤ z ∧ z < 16) (hap : ApIs w (.lit 43) x y z n)
    (pc' : Int) (cyc' : Int) (hpc' : pc' = w32 (pc + 4)) (hcyc' : cyc' = i64 (cyc + 1)) : RTailOk ⟨r, pc, vec, back, on, hdl⟩ bd F w cyc (.lit 0) ⟨1, cyc', 0, 0, 0, 0, false, 0, false, 0⟩ ⟨r, pc', vec, back, false, hdl⟩ bd := by
  refine kcode I13ok 6 ⟨[], 0⟩ tail13_chk ?_
  conv => cbv
  refine OkCall.by_spec hap [] (by decide) (by cbv) trivial ?_
  conv => cbv
  refine (LeOut.mk' [0, 1, 2] (by decide) rfl id ?_ ?_).two
  · conv => cbv
    exact ⟨by rw [hcyc']; show _ = addI .i64 cyc 1; rw [addI_eq]; rfl, trivial⟩
  · conv => cbv
    exact ⟨⟨by rw [hpc']; exact (pc4 pc).symm, trivial⟩, trivial⟩

theorem rtail_45 (r : List Int) (pc vec back : Int) (on hdl : Bool) (bd : BoardS) (F) (w cyc x y z n : Int) (hs : RegOk ⟨r, pc, vec, back, on, hdl⟩) (hz0 : r.set 0 0 = r) (hbd : BdOk bd) (hx : 0 ≤ x ∧ x < 16) (hy : 0 ≤ y ∧ y < 16) (hz : 0 ≤ z ∧ z < 16) (hh : hdl = true) (hap : ApIs w (.lit 44) x y z n)
    (cyc' : Int) (hcyc' : cyc' = i64 (cyc + 1)) : RTailOk ⟨r, pc, vec, back, on, hdl⟩ bd F w cyc (.lit 0) ⟨1, cyc', 0, 0, 0, 0, false, 0, false, 0⟩ ⟨r, back, vec, back, on, false⟩ bd := by
  refine kcode I13ok 6 ⟨[], 0⟩ tail13_chk ?_
  conv => cbv
  refine OkCall.by_spec hap [] (by decide) (by cbv) trivial ?_
  conv => cbv
  refine Br.no (by simp only [leafs]; rw [hh]; rfl) ?_
  conv => cbv
  refine (LeOut.mk' [0, 1, 2] (by decide) rfl id ?_ ?_).two
  · conv => cbv
    exact ⟨by rw [hcyc']; show _ = addI .i64 cyc 1; rw [addI_eq]; rfl, trivial⟩
  · conv => cbv
    trivial
theorem rtail_45n (r : List Int) (pc vec back : Int) (on hdl : Bool) (bd : BoardS) (F) (w cyc x y z n : Int) (hs : RegOk ⟨r, pc, vec, back, on, hdl⟩) (hz0 : r.set 0 0 = r) (hbd : BdOk bd) (hx : 0 ≤ x ∧ x < 16) (hy : 0 ≤ y ∧ y < 16) (hz : 0 ≤ z ∧ z < 16) (hh : hdl = false) (hap : ApIs w (.lit 44) x y z n)
    (cyc' : Int) (hcyc' : cyc' = i64 (cyc + 1)) : RTailOk ⟨r, pc, vec, back, on, hdl⟩ bd F w cyc (.lit 0) ⟨3, cyc', 0, 6, pc, 0, false, 0, false, 0⟩ ⟨r, pc, vec, back, on, hdl⟩ bd := by
  refine kcode I13ok 6 ⟨[], 0⟩ tail13_chk ?_
  conv => cbv
  refine OkCall.by_spec hap [] (by decide) (by cbv) trivial ?_
  conv => cbv
  refine Br.yes (by simp only [leafs]; rw [hh]; rfl) ?_
  conv => cbv
  refine (LeOut.mk' [0, 1, 2] (by decide) rfl id ?_ ?_).two
  · conv => cbv
    exact ⟨by rw [hcyc']; show _ = addI .i64 cyc 1; rw [addI_eq]; rfl, trivial⟩
  · conv => cbv
    trivial

theorem rtail_46 (r : List Int) (pc vec back : Int) (on hdl : Bool) (bd : BoardS) (F) (w cyc x y z n : Int) (hs : RegOk ⟨r, pc, vec, back, on, hdl⟩) (hz0 : r.set 0 0 = r) (hbd : BdOk bd) (hx : 0 ≤ x ∧ x < 16) (hy : 0 ≤ y ∧ y < 16) (hz : 0 ≤ z ∧ z < 16) (hap : ApIs w (.lit 45) x y z n)
    (pc' : Int) (cyc' : Int) (vec' : Int) (hpc' : pc' = w32 (pc + 4)) (hcyc' : cyc' = i64 (cyc + 1)) (hvec' : vec' = rgL r x) : RTailOk ⟨r, pc, vec, back, on, hdl⟩ bd F w cyc (.lit 0) ⟨1, cyc', 0, 0, 0, 0, false, 0, false, 0⟩ ⟨r, pc', vec', back, on, hdl⟩ bd := by
  refine kcode I13ok 6 ⟨[], 0⟩ tail13_chk ?_
  conv => cbv
  refine OkCall.by_spec hap [] (by decide) (by cbv) trivial ?_
  conv => cbv
  repeat (first | refine And.intro (inR.mk (by omega) (by omega)) ?_ | refine And.intro (nLt.mk (by simp only [leafs]; omega)) ?_)
  conv => cbv
  obtain ⟨xa, hexa⟩ : ∃ v, gi r (toN x) = v := ⟨_, rfl⟩
  have hgxa := hexa
  rw [giR] at hgxa
  have hUxa : U32 xa := by rw [← hgxa]; exact rg_ok hs x
  refine (LeOut.mk' [0, 1, 2] (by decide) rfl id ?_ ?_).two
  · conv => cbv
    exact ⟨by rw [hcyc']; show _ = addI .i64 cyc 1; rw [addI_eq]; rfl, trivial⟩
  · conv => cbv
    exact ⟨⟨by rw [hpc']; exact (pc4 pc).symm, by rw [hvec', ← giR]; rfl, trivial⟩, trivial⟩

theorem rtail_47 (r : List Int) (pc vec back : Int) (on hdl : Bool) (bd : BoardS) (F) (w cyc x y z n : Int) (hs : RegOk ⟨r, pc, vec, back, on, hdl⟩) (hz0 : r.set 0 0 = r) (hbd : BdOk bd) (hx : 0 ≤ x ∧ x < 16) (hy : 0 ≤ y ∧ y < 16) (hz : 0 ≤ z ∧ z < 16) (hap : ApIs w (.lit 46) x y z n)
    (cyc' : Int) (hcyc' : cyc' = i64 (cyc + 1)) : RTailOk ⟨r, pc, vec, back, on, hdl⟩ bd F w cyc (.lit 0) ⟨4, cyc', 0, 0, 0, 0, false, 0, false, 0⟩ ⟨r, pc, vec, back, on, hdl⟩ bd := by
  refine kcode I13ok 6 ⟨[], 0⟩ tail13_chk ?_
  conv => cbv
  refine OkCall.by_spec hap [] (by decide) (by cbv) trivial ?_
  conv => cbv
  refine (LeOut.mk' [0, 1, 2] (by decide) rfl id ?_ ?_).two
  · conv => cbv
    exact ⟨by rw [hcyc']; show _ = addI .i64 cyc 1; rw [addI_eq]; rfl, trivial⟩
  · conv => cbv
    trivial

theorem rtail_48 (r : List Int) (pc vec back : Int) (on hdl : Bool) (bd : BoardS) (F) (w cyc x y z n : Int) (hs : RegOk ⟨r, pc, vec, back, on, hdl⟩) (hz0 : r.set 0 0 = r) (hbd : BdOk bd) (hx : 0 ≤ x ∧ x < 16) (hy : 0 ≤ y ∧ y < 16) (hz : 0 ≤ z ∧ z < 16) (hap : ApIs w (.lit 47) x y z n)
    (pc' : Int) (cyc' : Int) (hpc' : pc' = w32 (pc + 4)) (hcyc' : cyc' = i64 (cyc + 1)) : RTailOk ⟨r, pc, vec, back, on, hdl⟩ bd F w cyc (.lit 0) ⟨1, cyc', 0, 0, 0, 0, false, 0, false, 0⟩ ⟨r, pc', vec, back, on, hdl⟩ bd := by
  refine kcode I13ok 6 ⟨[], 0⟩ tail13_chk ?_
  conv => cbv
  refine OkCall.by_spec hap [] (by decide) (by cbv) trivial ?_
  conv => cbv
  refine (LeOut.mk' [0, 1, 2] (by decide) rfl id ?_ ?_).two
  · conv => cbv
    exact ⟨by rw [hcyc']; show _ = addI .i64 cyc 1; rw [addI_eq]; rfl, trivial⟩
  · conv => cbv
    exact ⟨⟨by rw [hpc']; exact (pc4 pc).symm, trivial⟩, trivial⟩

end Go.Proofs.YtkljgpepogkgdaaDoor
