/-
  isa.Uses of what Decode hands back, form by form.
-/
import Derived.Test.YtkljgpepogkgdaaDoorS4
set_option linter.unusedVariables false
set_option linter.unusedSimpArgs false
namespace Go.Proofs.YtkljgpepogkgdaaDoor
open Go Go.Vex
set_option maxRecDepth 20000
set_option maxHeartbeats 4000000
noncomputable def I22 : FnT := [(22, fi Tryd.f22 ⟨[], 0⟩), (19, fi Tryd.f19 ⟨[], 4⟩), (42, fi Tryd.f42 ⟨[], 0⟩)]
theorem I22ok : FnsOk kit I22 := ⟨fo22 _, fo19 _, fo42 _, trivial⟩
noncomputable def readsF (op a b : Int) : Int := if op = 40 then 126 else clrI .u16 (orI .u16 (shlI .u16 1 a) (shlI .u16 1 b)) 1
noncomputable def writesF (op d : Int) : Int := if op = 40 then 14 else clrI .u16 (shlI .u16 1 d) 1
abbrev UsesIs (op : Int) (d a b imm : Int) : Prop := Spec1 kit 22 [.agg [.i .i64 (.ex op), .i .u8 (.ex d), .i .u8 (.ex a), .i .u8 (.ex b), .i .i32 (.ex imm)]] [.glob 0 layoutsL] false (.tup [.i .u16 (.ex (readsF op a b)), .i .u16 (.ex (writesF op d))]) [.glob 0 layoutsL] []

theorem uses_dab (op : Int) (nm : ByteArray) (shp : Int) (oq : S Int) (ho : op = oq.val) (h : OfIs oq nm 1 0 shp) (d a b imm : Int) (hop : op ≠ 40) (hd : 0 ≤ d ∧ d < 16) (ha : 0 ≤ a ∧ a < 16) (hb : 0 ≤ b ∧ b < 16) (hi : imm = 0) : UsesIs op d a b imm := by
  obtain ⟨rr, hrr⟩ : ∃ x, readsF op a b = x := ⟨_, rfl⟩
  obtain ⟨wr, hwr⟩ : ∃ x, writesF op d = x := ⟨_, rfl⟩
  unfold UsesIs
  rw [hrr, hwr]
  unfold readsF at hrr
  unfold writesF at hwr
  refine Spec1.mk2 rfl fun F => ?_
  refine into I22ok 6 ?_
  conv => cbv
  refine OkCall.by_spec h [] (by decide) (by conv => cbv
                                             exact ⟨ho.symm, trivial⟩) trivial ?_
  conv => cbv
  refine Br.no (by simp only [leafs, decide_eq_false_iff_not]; omega) ?_
  conv => cbv
  refine Br.no (by simp only [leafs, decide_eq_false_iff_not]; omega) ?_
  conv => cbv
  refine Br.no (by simp only [leafs, decide_eq_false_iff_not]; omega) ?_
  conv => cbv
  refine Br.no (by show notB (eqI (convI .i64 imm) 0) = false; rw [convI_eq, IntWalk.i64_in _ (by omega), hi, notB_eq, eqI_eq]; rfl) ?_
  conv => cbv
  refine Br.no (by show eqI op 40 = false; rw [eqI_eq]; simpa using hop) ?_
  conv => cbv
  rw [if_neg hop] at hrr hwr
  refine ⟨geZ.mk (by omega), geZ.mk (by omega), geZ.mk (by omega), ?_⟩
  refine (LeOut.mk' [0, 1] (by decide) rfl id ?_ (by cbv)).two
  conv => cbv
  exact ⟨hrr.symm, hwr.symm, trivial⟩
theorem uses_dais (op : Int) (nm : ByteArray) (shp : Int) (oq : S Int) (ho : op = oq.val) (h : OfIs oq nm 2 1 shp) (d a b imm : Int) (hop : op ≠ 40) (hd : 0 ≤ d ∧ d < 16) (ha : 0 ≤ a ∧ a < 16) (hb : b = 0) (hi : -131072 ≤ imm ∧ imm < 131072) : UsesIs op d a b imm := by
  obtain ⟨rr, hrr⟩ : ∃ x, readsF op a b = x := ⟨_, rfl⟩
  obtain ⟨wr, hwr⟩ : ∃ x, writesF op d = x := ⟨_, rfl⟩
  unfold UsesIs
  rw [hrr, hwr]
  unfold readsF at hrr
  unfold writesF at hwr
  refine Spec1.mk2 rfl fun F => ?_
  refine into I22ok 6 ?_
  conv => cbv
  refine OkCall.by_spec h [] (by decide) (by conv => cbv
                                             exact ⟨ho.symm, trivial⟩) trivial ?_
  conv => cbv
  refine Br.no (by simp only [leafs, decide_eq_false_iff_not]; omega) ?_
  conv => cbv
  refine Br.no (by simp only [leafs, decide_eq_false_iff_not]; omega) ?_
  conv => cbv
  refine Br.no (by simp only [leafs, decide_eq_false_iff_not]; omega) ?_
  conv => cbv
  refine Br.no (by simp only [leafs, decide_eq_false_iff_not]; omega) ?_
  conv => cbv
  refine Br.yes (by show leI (-131072) (convI .i64 imm) = true; rw [convI_eq, IntWalk.i64_in _ (by omega), leI_eq, decide_eq_true_eq]; omega) ?_
  conv => cbv
  refine Br.no (by show notB (ltI (convI .i64 imm) 131072) = false; rw [convI_eq, IntWalk.i64_in _ (by omega), notB_eq, ltI_eq, Bool.not_eq_false', decide_eq_true_eq]; omega) ?_
  conv => cbv
  refine Br.no (by show eqI op 40 = false; rw [eqI_eq]; simpa using hop) ?_
  conv => cbv
  rw [if_neg hop] at hrr hwr
  refine ⟨geZ.mk (by omega), geZ.mk (by omega), geZ.mk (by omega), ?_⟩
  refine (LeOut.mk' [0, 1] (by decide) rfl id ?_ (by cbv)).two
  conv => cbv
  exact ⟨hrr.symm, hwr.symm, trivial⟩
theorem uses_daiu (op : Int) (nm : ByteArray) (shp : Int) (oq : S Int) (ho : op = oq.val) (h : OfIs oq nm 2 2 shp) (d a b imm : Int) (hop : op ≠ 40) (hd : 0 ≤ d ∧ d < 16) (ha : 0 ≤ a ∧ a < 16) (hb : b = 0) (hi : 0 ≤ imm ∧ imm ≤ 262143) : UsesIs op d a b imm := by
  obtain ⟨rr, hrr⟩ : ∃ x, readsF op a b = x := ⟨_, rfl⟩
  obtain ⟨wr, hwr⟩ : ∃ x, writesF op d = x := ⟨_, rfl⟩
  unfold UsesIs
  rw [hrr, hwr]
  unfold readsF at hrr
  unfold writesF at hwr
  refine Spec1.mk2 rfl fun F => ?_
  refine into I22ok 6 ?_
  conv => cbv
  refine OkCall.by_spec h [] (by decide) (by conv => cbv
                                             exact ⟨ho.symm, trivial⟩) trivial ?_
  conv => cbv
  refine Br.no (by simp only [leafs, decide_eq_false_iff_not]; omega) ?_
  conv => cbv
  refine Br.no (by simp only [leafs, decide_eq_false_iff_not]; omega) ?_
  conv => cbv
  refine Br.no (by simp only [leafs, decide_eq_false_iff_not]; omega) ?_
  conv => cbv
  refine Br.no (by simp only [leafs, decide_eq_false_iff_not]; omega) ?_
  conv => cbv
  refine Br.yes (by show leI 0 (convI .i64 imm) = true; rw [convI_eq, IntWalk.i64_in _ (by omega), leI_eq, decide_eq_true_eq]; omega) ?_
  conv => cbv
  refine Br.no (by show notB (leI (convI .i64 imm) 262143) = false; rw [convI_eq, IntWalk.i64_in _ (by omega), notB_eq, leI_eq, Bool.not_eq_false', decide_eq_true_eq]; omega) ?_
  conv => cbv
  refine Br.no (by show eqI op 40 = false; rw [eqI_eq]; simpa using hop) ?_
  conv => cbv
  rw [if_neg hop] at hrr hwr
  refine ⟨geZ.mk (by omega), geZ.mk (by omega), geZ.mk (by omega), ?_⟩
  refine (LeOut.mk' [0, 1] (by decide) rfl id ?_ (by cbv)).two
  conv => cbv
  exact ⟨hrr.symm, hwr.symm, trivial⟩
theorem uses_dain (op : Int) (nm : ByteArray) (shp : Int) (oq : S Int) (ho : op = oq.val) (h : OfIs oq nm 2 3 shp) (d a b imm : Int) (hop : op ≠ 40) (hd : 0 ≤ d ∧ d < 16) (ha : 0 ≤ a ∧ a < 16) (hb : b = 0) (hi : 0 ≤ imm ∧ imm ≤ 31) : UsesIs op d a b imm := by
  obtain ⟨rr, hrr⟩ : ∃ x, readsF op a b = x := ⟨_, rfl⟩
  obtain ⟨wr, hwr⟩ : ∃ x, writesF op d = x := ⟨_, rfl⟩
  unfold UsesIs
  rw [hrr, hwr]
  unfold readsF at hrr
  unfold writesF at hwr
  refine Spec1.mk2 rfl fun F => ?_
  refine into I22ok 6 ?_
  conv => cbv
  refine OkCall.by_spec h [] (by decide) (by conv => cbv
                                             exact ⟨ho.symm, trivial⟩) trivial ?_
  conv => cbv
  refine Br.no (by simp only [leafs, decide_eq_false_iff_not]; omega) ?_
  conv => cbv
  refine Br.no (by simp only [leafs, decide_eq_false_iff_not]; omega) ?_
  conv => cbv
  refine Br.no (by simp only [leafs, decide_eq_false_iff_not]; omega) ?_
  conv => cbv
  refine Br.no (by simp only [leafs, decide_eq_false_iff_not]; omega) ?_
  conv => cbv
  refine Br.yes (by show leI 0 (convI .i64 imm) = true; rw [convI_eq, IntWalk.i64_in _ (by omega), leI_eq, decide_eq_true_eq]; omega) ?_
  conv => cbv
  refine Br.no (by show notB (leI (convI .i64 imm) 31) = false; rw [convI_eq, IntWalk.i64_in _ (by omega), notB_eq, leI_eq, Bool.not_eq_false', decide_eq_true_eq]; omega) ?_
  conv => cbv
  refine Br.no (by show eqI op 40 = false; rw [eqI_eq]; simpa using hop) ?_
  conv => cbv
  rw [if_neg hop] at hrr hwr
  refine ⟨geZ.mk (by omega), geZ.mk (by omega), geZ.mk (by omega), ?_⟩
  refine (LeOut.mk' [0, 1] (by decide) rfl id ?_ (by cbv)).two
  conv => cbv
  exact ⟨hrr.symm, hwr.symm, trivial⟩
theorem uses_abis (op : Int) (nm : ByteArray) (shp : Int) (oq : S Int) (ho : op = oq.val) (h : OfIs oq nm 3 1 shp) (d a b imm : Int) (hop : op ≠ 40) (hd : d = 0) (ha : 0 ≤ a ∧ a < 16) (hb : 0 ≤ b ∧ b < 16) (hi : -131072 ≤ imm ∧ imm < 131072) : UsesIs op d a b imm := by
  obtain ⟨rr, hrr⟩ : ∃ x, readsF op a b = x := ⟨_, rfl⟩
  obtain ⟨wr, hwr⟩ : ∃ x, writesF op d = x := ⟨_, rfl⟩
  unfold UsesIs
  rw [hrr, hwr]
  unfold readsF at hrr
  unfold writesF at hwr
  refine Spec1.mk2 rfl fun F => ?_
  refine into I22ok 6 ?_
  conv => cbv
  refine OkCall.by_spec h [] (by decide) (by conv => cbv
                                             exact ⟨ho.symm, trivial⟩) trivial ?_
  conv => cbv
  refine Br.no (by simp only [leafs, decide_eq_false_iff_not]; omega) ?_
  conv => cbv
  refine Br.no (by simp only [leafs, decide_eq_false_iff_not]; omega) ?_
  conv => cbv
  refine Br.no (by simp only [leafs, decide_eq_false_iff_not]; omega) ?_
  conv => cbv
  refine Br.no (by simp only [leafs, decide_eq_false_iff_not]; omega) ?_
  conv => cbv
  refine Br.yes (by show leI (-131072) (convI .i64 imm) = true; rw [convI_eq, IntWalk.i64_in _ (by omega), leI_eq, decide_eq_true_eq]; omega) ?_
  conv => cbv
  refine Br.no (by show notB (ltI (convI .i64 imm) 131072) = false; rw [convI_eq, IntWalk.i64_in _ (by omega), notB_eq, ltI_eq, Bool.not_eq_false', decide_eq_true_eq]; omega) ?_
  conv => cbv
  refine Br.no (by show eqI op 40 = false; rw [eqI_eq]; simpa using hop) ?_
  conv => cbv
  rw [if_neg hop] at hrr hwr
  refine ⟨geZ.mk (by omega), geZ.mk (by omega), geZ.mk (by omega), ?_⟩
  refine (LeOut.mk' [0, 1] (by decide) rfl id ?_ (by cbv)).two
  conv => cbv
  exact ⟨hrr.symm, hwr.symm, trivial⟩
theorem uses_diu (op : Int) (nm : ByteArray) (shp : Int) (oq : S Int) (ho : op = oq.val) (h : OfIs oq nm 4 2 shp) (d a b imm : Int) (hop : op ≠ 40) (hd : 0 ≤ d ∧ d < 16) (ha : a = 0) (hb : b = 0) (hi : 0 ≤ imm ∧ imm ≤ 262143) : UsesIs op d a b imm := by
  obtain ⟨rr, hrr⟩ : ∃ x, readsF op a b = x := ⟨_, rfl⟩
  obtain ⟨wr, hwr⟩ : ∃ x, writesF op d = x := ⟨_, rfl⟩
  unfold UsesIs
  rw [hrr, hwr]
  unfold readsF at hrr
  unfold writesF at hwr
  refine Spec1.mk2 rfl fun F => ?_
  refine into I22ok 6 ?_
  conv => cbv
  refine OkCall.by_spec h [] (by decide) (by conv => cbv
                                             exact ⟨ho.symm, trivial⟩) trivial ?_
  conv => cbv
  refine Br.no (by simp only [leafs, decide_eq_false_iff_not]; omega) ?_
  conv => cbv
  refine Br.no (by simp only [leafs, decide_eq_false_iff_not]; omega) ?_
  conv => cbv
  refine Br.no (by simp only [leafs, decide_eq_false_iff_not]; omega) ?_
  conv => cbv
  refine Br.no (by simp only [leafs, decide_eq_false_iff_not]; omega) ?_
  conv => cbv
  refine Br.no (by simp only [leafs, decide_eq_false_iff_not]; omega) ?_
  conv => cbv
  refine Br.yes (by show leI 0 (convI .i64 imm) = true; rw [convI_eq, IntWalk.i64_in _ (by omega), leI_eq, decide_eq_true_eq]; omega) ?_
  conv => cbv
  refine Br.no (by show notB (leI (convI .i64 imm) 262143) = false; rw [convI_eq, IntWalk.i64_in _ (by omega), notB_eq, leI_eq, Bool.not_eq_false', decide_eq_true_eq]; omega) ?_
  conv => cbv
  refine Br.no (by show eqI op 40 = false; rw [eqI_eq]; simpa using hop) ?_
  conv => cbv
  rw [if_neg hop] at hrr hwr
  refine ⟨geZ.mk (by omega), geZ.mk (by omega), geZ.mk (by omega), ?_⟩
  refine (LeOut.mk' [0, 1] (by decide) rfl id ?_ (by cbv)).two
  conv => cbv
  exact ⟨hrr.symm, hwr.symm, trivial⟩
theorem uses_dis (op : Int) (nm : ByteArray) (shp : Int) (oq : S Int) (ho : op = oq.val) (h : OfIs oq nm 4 1 shp) (d a b imm : Int) (hop : op ≠ 40) (hd : 0 ≤ d ∧ d < 16) (ha : a = 0) (hb : b = 0) (hi : -2097152 ≤ imm ∧ imm < 2097152) : UsesIs op d a b imm := by
  obtain ⟨rr, hrr⟩ : ∃ x, readsF op a b = x := ⟨_, rfl⟩
  obtain ⟨wr, hwr⟩ : ∃ x, writesF op d = x := ⟨_, rfl⟩
  unfold UsesIs
  rw [hrr, hwr]
  unfold readsF at hrr
  unfold writesF at hwr
  refine Spec1.mk2 rfl fun F => ?_
  refine into I22ok 6 ?_
  conv => cbv
  refine OkCall.by_spec h [] (by decide) (by conv => cbv
                                             exact ⟨ho.symm, trivial⟩) trivial ?_
  conv => cbv
  refine Br.no (by simp only [leafs, decide_eq_false_iff_not]; omega) ?_
  conv => cbv
  refine Br.no (by simp only [leafs, decide_eq_false_iff_not]; omega) ?_
  conv => cbv
  refine Br.no (by simp only [leafs, decide_eq_false_iff_not]; omega) ?_
  conv => cbv
  refine Br.no (by simp only [leafs, decide_eq_false_iff_not]; omega) ?_
  conv => cbv
  refine Br.no (by simp only [leafs, decide_eq_false_iff_not]; omega) ?_
  conv => cbv
  refine Br.yes (by show leI (-2097152) (convI .i64 imm) = true; rw [convI_eq, IntWalk.i64_in _ (by omega), leI_eq, decide_eq_true_eq]; omega) ?_
  conv => cbv
  refine Br.no (by show notB (ltI (convI .i64 imm) 2097152) = false; rw [convI_eq, IntWalk.i64_in _ (by omega), notB_eq, ltI_eq, Bool.not_eq_false', decide_eq_true_eq]; omega) ?_
  conv => cbv
  refine Br.no (by show eqI op 40 = false; rw [eqI_eq]; simpa using hop) ?_
  conv => cbv
  rw [if_neg hop] at hrr hwr
  refine ⟨geZ.mk (by omega), geZ.mk (by omega), geZ.mk (by omega), ?_⟩
  refine (LeOut.mk' [0, 1] (by decide) rfl id ?_ (by cbv)).two
  conv => cbv
  exact ⟨hrr.symm, hwr.symm, trivial⟩
theorem uses_d (op : Int) (nm : ByteArray) (shp : Int) (oq : S Int) (ho : op = oq.val) (h : OfIs oq nm 5 0 shp) (d a b imm : Int) (hop : op ≠ 40) (hd : 0 ≤ d ∧ d < 16) (ha : a = 0) (hb : b = 0) (hi : imm = 0) : UsesIs op d a b imm := by
  obtain ⟨rr, hrr⟩ : ∃ x, readsF op a b = x := ⟨_, rfl⟩
  obtain ⟨wr, hwr⟩ : ∃ x, writesF op d = x := ⟨_, rfl⟩
  unfold UsesIs
  rw [hrr, hwr]
  unfold readsF at hrr
  unfold writesF at hwr
  refine Spec1.mk2 rfl fun F => ?_
  refine into I22ok 6 ?_
  conv => cbv
  refine OkCall.by_spec h [] (by decide) (by conv => cbv
                                             exact ⟨ho.symm, trivial⟩) trivial ?_
  conv => cbv
  refine Br.no (by simp only [leafs, decide_eq_false_iff_not]; omega) ?_
  conv => cbv
  refine Br.no (by simp only [leafs, decide_eq_false_iff_not]; omega) ?_
  conv => cbv
  refine Br.no (by simp only [leafs, decide_eq_false_iff_not]; omega) ?_
  conv => cbv
  refine Br.no (by simp only [leafs, decide_eq_false_iff_not]; omega) ?_
  conv => cbv
  refine Br.no (by simp only [leafs, decide_eq_false_iff_not]; omega) ?_
  conv => cbv
  refine Br.no (by show notB (eqI (convI .i64 imm) 0) = false; rw [convI_eq, IntWalk.i64_in _ (by omega), hi, notB_eq, eqI_eq]; rfl) ?_
  conv => cbv
  refine Br.no (by show eqI op 40 = false; rw [eqI_eq]; simpa using hop) ?_
  conv => cbv
  rw [if_neg hop] at hrr hwr
  refine ⟨geZ.mk (by omega), geZ.mk (by omega), geZ.mk (by omega), ?_⟩
  refine (LeOut.mk' [0, 1] (by decide) rfl id ?_ (by cbv)).two
  conv => cbv
  exact ⟨hrr.symm, hwr.symm, trivial⟩
theorem uses_a (op : Int) (nm : ByteArray) (shp : Int) (oq : S Int) (ho : op = oq.val) (h : OfIs oq nm 6 0 shp) (d a b imm : Int) (hop : op ≠ 40) (hd : d = 0) (ha : 0 ≤ a ∧ a < 16) (hb : b = 0) (hi : imm = 0) : UsesIs op d a b imm := by
  obtain ⟨rr, hrr⟩ : ∃ x, readsF op a b = x := ⟨_, rfl⟩
  obtain ⟨wr, hwr⟩ : ∃ x, writesF op d = x := ⟨_, rfl⟩
  unfold UsesIs
  rw [hrr, hwr]
  unfold readsF at hrr
  unfold writesF at hwr
  refine Spec1.mk2 rfl fun F => ?_
  refine into I22ok 6 ?_
  conv => cbv
  refine OkCall.by_spec h [] (by decide) (by conv => cbv
                                             exact ⟨ho.symm, trivial⟩) trivial ?_
  conv => cbv
  refine Br.no (by simp only [leafs, decide_eq_false_iff_not]; omega) ?_
  conv => cbv
  refine Br.no (by simp only [leafs, decide_eq_false_iff_not]; omega) ?_
  conv => cbv
  refine Br.no (by simp only [leafs, decide_eq_false_iff_not]; omega) ?_
  conv => cbv
  refine Br.no (by simp only [leafs, decide_eq_false_iff_not]; omega) ?_
  conv => cbv
  refine Br.no (by simp only [leafs, decide_eq_false_iff_not]; omega) ?_
  conv => cbv
  refine Br.no (by show notB (eqI (convI .i64 imm) 0) = false; rw [convI_eq, IntWalk.i64_in _ (by omega), hi, notB_eq, eqI_eq]; rfl) ?_
  conv => cbv
  refine Br.no (by show eqI op 40 = false; rw [eqI_eq]; simpa using hop) ?_
  conv => cbv
  rw [if_neg hop] at hrr hwr
  refine ⟨geZ.mk (by omega), geZ.mk (by omega), geZ.mk (by omega), ?_⟩
  refine (LeOut.mk' [0, 1] (by decide) rfl id ?_ (by cbv)).two
  conv => cbv
  exact ⟨hrr.symm, hwr.symm, trivial⟩
theorem uses_iu (op : Int) (nm : ByteArray) (shp : Int) (oq : S Int) (ho : op = oq.val) (h : OfIs oq nm 7 2 shp) (d a b imm : Int) (hop : op = 40) (hd : d = 0) (ha : a = 0) (hb : b = 0) (hi : 0 ≤ imm ∧ imm ≤ 262143) : UsesIs op d a b imm := by
  obtain ⟨rr, hrr⟩ : ∃ x, readsF op a b = x := ⟨_, rfl⟩
  obtain ⟨wr, hwr⟩ : ∃ x, writesF op d = x := ⟨_, rfl⟩
  unfold UsesIs
  rw [hrr, hwr]
  unfold readsF at hrr
  unfold writesF at hwr
  refine Spec1.mk2 rfl fun F => ?_
  refine into I22ok 6 ?_
  conv => cbv
  refine OkCall.by_spec h [] (by decide) (by conv => cbv
                                             exact ⟨ho.symm, trivial⟩) trivial ?_
  conv => cbv
  refine Br.no (by simp only [leafs, decide_eq_false_iff_not]; omega) ?_
  conv => cbv
  refine Br.no (by simp only [leafs, decide_eq_false_iff_not]; omega) ?_
  conv => cbv
  refine Br.no (by simp only [leafs, decide_eq_false_iff_not]; omega) ?_
  conv => cbv
  refine Br.no (by simp only [leafs, decide_eq_false_iff_not]; omega) ?_
  conv => cbv
  refine Br.no (by simp only [leafs, decide_eq_false_iff_not]; omega) ?_
  conv => cbv
  refine Br.no (by simp only [leafs, decide_eq_false_iff_not]; omega) ?_
  conv => cbv
  refine Br.yes (by show leI 0 (convI .i64 imm) = true; rw [convI_eq, IntWalk.i64_in _ (by omega), leI_eq, decide_eq_true_eq]; omega) ?_
  conv => cbv
  refine Br.no (by show notB (leI (convI .i64 imm) 262143) = false; rw [convI_eq, IntWalk.i64_in _ (by omega), notB_eq, leI_eq, Bool.not_eq_false', decide_eq_true_eq]; omega) ?_
  conv => cbv
  refine Br.yes (by show eqI op 40 = true; rw [hop, eqI_eq]; rfl) ?_
  conv => cbv
  rw [if_pos hop] at hrr hwr
  refine (LeOut.mk' [0, 1] (by decide) rfl id ?_ (by cbv)).two
  conv => cbv
  exact ⟨hrr.symm, hwr.symm, trivial⟩
theorem uses_n (op : Int) (nm : ByteArray) (shp : Int) (oq : S Int) (ho : op = oq.val) (h : OfIs oq nm 8 0 shp) (d a b imm : Int) (hop : op ≠ 40) (hd : d = 0) (ha : a = 0) (hb : b = 0) (hi : imm = 0) : UsesIs op d a b imm := by
  obtain ⟨rr, hrr⟩ : ∃ x, readsF op a b = x := ⟨_, rfl⟩
  obtain ⟨wr, hwr⟩ : ∃ x, writesF op d = x := ⟨_, rfl⟩
  unfold UsesIs
  rw [hrr, hwr]
  unfold readsF at hrr
  unfold writesF at hwr
  refine Spec1.mk2 rfl fun F => ?_
  refine into I22ok 6 ?_
  conv => cbv
  refine OkCall.by_spec h [] (by decide) (by conv => cbv
                                             exact ⟨ho.symm, trivial⟩) trivial ?_
  conv => cbv
  refine Br.no (by simp only [leafs, decide_eq_false_iff_not]; omega) ?_
  conv => cbv
  refine Br.no (by simp only [leafs, decide_eq_false_iff_not]; omega) ?_
  conv => cbv
  refine Br.no (by simp only [leafs, decide_eq_false_iff_not]; omega) ?_
  conv => cbv
  refine Br.no (by simp only [leafs, decide_eq_false_iff_not]; omega) ?_
  conv => cbv
  refine Br.no (by simp only [leafs, decide_eq_false_iff_not]; omega) ?_
  conv => cbv
  refine Br.no (by simp only [leafs, decide_eq_false_iff_not]; omega) ?_
  conv => cbv
  refine Br.no (by show notB (eqI (convI .i64 imm) 0) = false; rw [convI_eq, IntWalk.i64_in _ (by omega), hi, notB_eq, eqI_eq]; rfl) ?_
  conv => cbv
  refine Br.no (by show eqI op 40 = false; rw [eqI_eq]; simpa using hop) ?_
  conv => cbv
  rw [if_neg hop] at hrr hwr
  refine ⟨geZ.mk (by omega), geZ.mk (by omega), geZ.mk (by omega), ?_⟩
  refine (LeOut.mk' [0, 1] (by decide) rfl id ?_ (by cbv)).two
  conv => cbv
  exact ⟨hrr.symm, hwr.symm, trivial⟩
theorem x22_rng (w : Int) : 0 ≤ x22 w ∧ x22 w < 16 := by unfold x22; omega
theorem x18_rng (w : Int) : 0 ≤ x18 w ∧ x18 w < 16 := by unfold x18; omega
theorem x14_rng (w : Int) : 0 ≤ x14 w ∧ x14 w < 16 := by unfold x14; omega
theorem s18_rng (w : Int) : -131072 ≤ s18 w ∧ s18 w < 131072 := by unfold s18; split <;> omega
theorem s22_rng (w : Int) : -2097152 ≤ s22 w ∧ s22 w < 2097152 := by unfold s22; split <;> omega
abbrev DecX (w : Int) (i : Ins) : Prop := Spec1 kit 21 [.i .u32 (.ex w)] [.glob 0 layoutsL] false (.tup [.agg [.i .i64 (.ex i.op), .i .u8 (.ex i.d), .i .u8 (.ex i.a), .i .u8 (.ex i.b), .i .i32 (.ex i.imm)], .i .i64 (.lit 0)]) [.glob 0 layoutsL] []
theorem dec_ex {w k d a b imm : Int} (h : DecIs w k d a b imm) : Spec1 kit 21 [.i .u32 (.ex w)] [.glob 0 layoutsL] false (.tup [.agg [.i .i64 (.ex k), .i .u8 (.ex d), .i .u8 (.ex a), .i .u8 (.ex b), .i .i32 (.ex imm)], .i .i64 (.lit 0)]) [.glob 0 layoutsL] [] :=
  Spec1.mk2 rfl fun F => (h.out F).cons (by
    rintro q v hp' ⟨rfl, rfl, rfl⟩
    exact (LeOut.mk' [0, 1] (by decide) rfl id (by cbv) (by cbv)).two)

theorem du_1 {w : Int} (h0 : 0 ≤ w) (h1 : w < 4294967296) (hk : w / 67108864 = 1) (i : Ins) (h : decF w = some i) : DecX w i ∧ UsesIs i.op i.d i.a i.b i.imm := by
  obtain ⟨ho, hd⟩ := decis_1 h0 h1 hk i h
  refine ⟨by unfold DecX; rw [ho]; exact dec_ex hd, ?_⟩
  have e : (w / 67108864).toNat = 1 := by omega
  unfold decF at h; rw [e] at h
  simp only [formF] at h
  split at h
  · rename_i hv
    cases h
    exact uses_dab _ _ 0 (.lit 1) (by simp; try omega) of_1 _ _ _ _ (by simp; try omega) (x22_rng w) (x18_rng w) (x14_rng w) rfl
  · cases h
theorem du_2 {w : Int} (h0 : 0 ≤ w) (h1 : w < 4294967296) (hk : w / 67108864 = 2) (i : Ins) (h : decF w = some i) : DecX w i ∧ UsesIs i.op i.d i.a i.b i.imm := by
  obtain ⟨ho, hd⟩ := decis_2 h0 h1 hk i h
  refine ⟨by unfold DecX; rw [ho]; exact dec_ex hd, ?_⟩
  have e : (w / 67108864).toNat = 2 := by omega
  unfold decF at h; rw [e] at h
  simp only [formF] at h
  split at h
  · rename_i hv
    cases h
    exact uses_dab _ _ 0 (.lit 2) (by simp; try omega) of_2 _ _ _ _ (by simp; try omega) (x22_rng w) (x18_rng w) (x14_rng w) rfl
  · cases h
theorem du_3 {w : Int} (h0 : 0 ≤ w) (h1 : w < 4294967296) (hk : w / 67108864 = 3) (i : Ins) (h : decF w = some i) : DecX w i ∧ UsesIs i.op i.d i.a i.b i.imm := by
  obtain ⟨ho, hd⟩ := decis_3 h0 h1 hk i h
  refine ⟨by unfold DecX; rw [ho]; exact dec_ex hd, ?_⟩
  have e : (w / 67108864).toNat = 3 := by omega
  unfold decF at h; rw [e] at h
  simp only [formF] at h
  split at h
  · rename_i hv
    cases h
    exact uses_dab _ _ 0 (.lit 3) (by simp; try omega) of_3 _ _ _ _ (by simp; try omega) (x22_rng w) (x18_rng w) (x14_rng w) rfl
  · cases h
theorem du_4 {w : Int} (h0 : 0 ≤ w) (h1 : w < 4294967296) (hk : w / 67108864 = 4) (i : Ins) (h : decF w = some i) : DecX w i ∧ UsesIs i.op i.d i.a i.b i.imm := by
  obtain ⟨ho, hd⟩ := decis_4 h0 h1 hk i h
  refine ⟨by unfold DecX; rw [ho]; exact dec_ex hd, ?_⟩
  have e : (w / 67108864).toNat = 4 := by omega
  unfold decF at h; rw [e] at h
  simp only [formF] at h
  split at h
  · rename_i hv
    cases h
    exact uses_dab _ _ 0 (.lit 4) (by simp; try omega) of_4 _ _ _ _ (by simp; try omega) (x22_rng w) (x18_rng w) (x14_rng w) rfl
  · cases h
theorem du_5 {w : Int} (h0 : 0 ≤ w) (h1 : w < 4294967296) (hk : w / 67108864 = 5) (i : Ins) (h : decF w = some i) : DecX w i ∧ UsesIs i.op i.d i.a i.b i.imm := by
  obtain ⟨ho, hd⟩ := decis_5 h0 h1 hk i h
  refine ⟨by unfold DecX; rw [ho]; exact dec_ex hd, ?_⟩
  have e : (w / 67108864).toNat = 5 := by omega
  unfold decF at h; rw [e] at h
  simp only [formF] at h
  split at h
  · rename_i hv
    cases h
    exact uses_dab _ _ 0 (.lit 5) (by simp; try omega) of_5 _ _ _ _ (by simp; try omega) (x22_rng w) (x18_rng w) (x14_rng w) rfl
  · cases h
theorem du_6 {w : Int} (h0 : 0 ≤ w) (h1 : w < 4294967296) (hk : w / 67108864 = 6) (i : Ins) (h : decF w = some i) : DecX w i ∧ UsesIs i.op i.d i.a i.b i.imm := by
  obtain ⟨ho, hd⟩ := decis_6 h0 h1 hk i h
  refine ⟨by unfold DecX; rw [ho]; exact dec_ex hd, ?_⟩
  have e : (w / 67108864).toNat = 6 := by omega
  unfold decF at h; rw [e] at h
  simp only [formF] at h
  split at h
  · rename_i hv
    cases h
    exact uses_dab _ _ 0 (.lit 6) (by simp; try omega) of_6 _ _ _ _ (by simp; try omega) (x22_rng w) (x18_rng w) (x14_rng w) rfl
  · cases h
theorem du_7 {w : Int} (h0 : 0 ≤ w) (h1 : w < 4294967296) (hk : w / 67108864 = 7) (i : Ins) (h : decF w = some i) : DecX w i ∧ UsesIs i.op i.d i.a i.b i.imm := by
  obtain ⟨ho, hd⟩ := decis_7 h0 h1 hk i h
  refine ⟨by unfold DecX; rw [ho]; exact dec_ex hd, ?_⟩
  have e : (w / 67108864).toNat = 7 := by omega
  unfold decF at h; rw [e] at h
  simp only [formF] at h
  split at h
  · rename_i hv
    cases h
    exact uses_dab _ _ 0 (.lit 7) (by simp; try omega) of_7 _ _ _ _ (by simp; try omega) (x22_rng w) (x18_rng w) (x14_rng w) rfl
  · cases h
theorem du_8 {w : Int} (h0 : 0 ≤ w) (h1 : w < 4294967296) (hk : w / 67108864 = 8) (i : Ins) (h : decF w = some i) : DecX w i ∧ UsesIs i.op i.d i.a i.b i.imm := by
  obtain ⟨ho, hd⟩ := decis_8 h0 h1 hk i h
  refine ⟨by unfold DecX; rw [ho]; exact dec_ex hd, ?_⟩
  have e : (w / 67108864).toNat = 8 := by omega
  unfold decF at h; rw [e] at h
  simp only [formF] at h
  split at h
  · rename_i hv
    cases h
    exact uses_dab _ _ 0 (.lit 8) (by simp; try omega) of_8 _ _ _ _ (by simp; try omega) (x22_rng w) (x18_rng w) (x14_rng w) rfl
  · cases h
theorem du_9 {w : Int} (h0 : 0 ≤ w) (h1 : w < 4294967296) (hk : w / 67108864 = 9) (i : Ins) (h : decF w = some i) : DecX w i ∧ UsesIs i.op i.d i.a i.b i.imm := by
  obtain ⟨ho, hd⟩ := decis_9 h0 h1 hk i h
  refine ⟨by unfold DecX; rw [ho]; exact dec_ex hd, ?_⟩
  have e : (w / 67108864).toNat = 9 := by omega
  unfold decF at h; rw [e] at h
  simp only [formF] at h
  split at h
  · rename_i hv
    cases h
    exact uses_dab _ _ 0 (.lit 9) (by simp; try omega) of_9 _ _ _ _ (by simp; try omega) (x22_rng w) (x18_rng w) (x14_rng w) rfl
  · cases h
theorem du_10 {w : Int} (h0 : 0 ≤ w) (h1 : w < 4294967296) (hk : w / 67108864 = 10) (i : Ins) (h : decF w = some i) : DecX w i ∧ UsesIs i.op i.d i.a i.b i.imm := by
  obtain ⟨ho, hd⟩ := decis_10 h0 h1 hk i h
  refine ⟨by unfold DecX; rw [ho]; exact dec_ex hd, ?_⟩
  have e : (w / 67108864).toNat = 10 := by omega
  unfold decF at h; rw [e] at h
  simp only [formF] at h
  split at h
  · rename_i hv
    cases h
    exact uses_dab _ _ 0 (.lit 10) (by simp; try omega) of_10 _ _ _ _ (by simp; try omega) (x22_rng w) (x18_rng w) (x14_rng w) rfl
  · cases h
theorem du_11 {w : Int} (h0 : 0 ≤ w) (h1 : w < 4294967296) (hk : w / 67108864 = 11) (i : Ins) (h : decF w = some i) : DecX w i ∧ UsesIs i.op i.d i.a i.b i.imm := by
  obtain ⟨ho, hd⟩ := decis_11 h0 h1 hk i h
  refine ⟨by unfold DecX; rw [ho]; exact dec_ex hd, ?_⟩
  have e : (w / 67108864).toNat = 11 := by omega
  unfold decF at h; rw [e] at h
  simp only [formF] at h
  split at h
  · rename_i hv
    cases h
    exact uses_dab _ _ 0 (.lit 11) (by simp; try omega) of_11 _ _ _ _ (by simp; try omega) (x22_rng w) (x18_rng w) (x14_rng w) rfl
  · cases h
theorem du_12 {w : Int} (h0 : 0 ≤ w) (h1 : w < 4294967296) (hk : w / 67108864 = 12) (i : Ins) (h : decF w = some i) : DecX w i ∧ UsesIs i.op i.d i.a i.b i.imm := by
  obtain ⟨ho, hd⟩ := decis_12 h0 h1 hk i h
  refine ⟨by unfold DecX; rw [ho]; exact dec_ex hd, ?_⟩
  have e : (w / 67108864).toNat = 12 := by omega
  unfold decF at h; rw [e] at h
  simp only [formF] at h
  split at h
  · rename_i hv
    cases h
    exact uses_dab _ _ 0 (.lit 12) (by simp; try omega) of_12 _ _ _ _ (by simp; try omega) (x22_rng w) (x18_rng w) (x14_rng w) rfl
  · cases h
theorem du_13 {w : Int} (h0 : 0 ≤ w) (h1 : w < 4294967296) (hk : w / 67108864 = 13) (i : Ins) (h : decF w = some i) : DecX w i ∧ UsesIs i.op i.d i.a i.b i.imm := by
  obtain ⟨ho, hd⟩ := decis_13 h0 h1 hk i h
  refine ⟨by unfold DecX; rw [ho]; exact dec_ex hd, ?_⟩
  have e : (w / 67108864).toNat = 13 := by omega
  unfold decF at h; rw [e] at h
  simp only [formF] at h
  split at h
  · rename_i hv
    cases h
    exact uses_dab _ _ 0 (.lit 13) (by simp; try omega) of_13 _ _ _ _ (by simp; try omega) (x22_rng w) (x18_rng w) (x14_rng w) rfl
  · cases h
theorem du_14 {w : Int} (h0 : 0 ≤ w) (h1 : w < 4294967296) (hk : w / 67108864 = 14) (i : Ins) (h : decF w = some i) : DecX w i ∧ UsesIs i.op i.d i.a i.b i.imm := by
  obtain ⟨ho, hd⟩ := decis_14 h0 h1 hk i h
  refine ⟨by unfold DecX; rw [ho]; exact dec_ex hd, ?_⟩
  have e : (w / 67108864).toNat = 14 := by omega
  unfold decF at h; rw [e] at h
  simp only [formF] at h
  cases h
  exact uses_dais _ _ 0 (.lit 14) (by simp; try omega) of_14 _ _ _ _ (by simp; try omega) (x22_rng w) (x18_rng w) rfl (s18_rng w)
theorem du_15 {w : Int} (h0 : 0 ≤ w) (h1 : w < 4294967296) (hk : w / 67108864 = 15) (i : Ins) (h : decF w = some i) : DecX w i ∧ UsesIs i.op i.d i.a i.b i.imm := by
  obtain ⟨ho, hd⟩ := decis_15 h0 h1 hk i h
  refine ⟨by unfold DecX; rw [ho]; exact dec_ex hd, ?_⟩
  have e : (w / 67108864).toNat = 15 := by omega
  unfold decF at h; rw [e] at h
  simp only [formF] at h
  cases h
  exact uses_daiu _ _ 0 (.lit 15) (by simp; try omega) of_15 _ _ _ _ (by simp; try omega) (x22_rng w) (x18_rng w) rfl (show 0 ≤ w % 262144 ∧ w % 262144 ≤ 262143 by omega)
theorem du_16 {w : Int} (h0 : 0 ≤ w) (h1 : w < 4294967296) (hk : w / 67108864 = 16) (i : Ins) (h : decF w = some i) : DecX w i ∧ UsesIs i.op i.d i.a i.b i.imm := by
  obtain ⟨ho, hd⟩ := decis_16 h0 h1 hk i h
  refine ⟨by unfold DecX; rw [ho]; exact dec_ex hd, ?_⟩
  have e : (w / 67108864).toNat = 16 := by omega
  unfold decF at h; rw [e] at h
  simp only [formF] at h
  cases h
  exact uses_daiu _ _ 0 (.lit 16) (by simp; try omega) of_16 _ _ _ _ (by simp; try omega) (x22_rng w) (x18_rng w) rfl (show 0 ≤ w % 262144 ∧ w % 262144 ≤ 262143 by omega)
theorem du_17 {w : Int} (h0 : 0 ≤ w) (h1 : w < 4294967296) (hk : w / 67108864 = 17) (i : Ins) (h : decF w = some i) : DecX w i ∧ UsesIs i.op i.d i.a i.b i.imm := by
  obtain ⟨ho, hd⟩ := decis_17 h0 h1 hk i h
  refine ⟨by unfold DecX; rw [ho]; exact dec_ex hd, ?_⟩
  have e : (w / 67108864).toNat = 17 := by omega
  unfold decF at h; rw [e] at h
  simp only [formF] at h
  cases h
  exact uses_daiu _ _ 0 (.lit 17) (by simp; try omega) of_17 _ _ _ _ (by simp; try omega) (x22_rng w) (x18_rng w) rfl (show 0 ≤ w % 262144 ∧ w % 262144 ≤ 262143 by omega)
theorem du_18 {w : Int} (h0 : 0 ≤ w) (h1 : w < 4294967296) (hk : w / 67108864 = 18) (i : Ins) (h : decF w = some i) : DecX w i ∧ UsesIs i.op i.d i.a i.b i.imm := by
  obtain ⟨ho, hd⟩ := decis_18 h0 h1 hk i h
  refine ⟨by unfold DecX; rw [ho]; exact dec_ex hd, ?_⟩
  have e : (w / 67108864).toNat = 18 := by omega
  unfold decF at h; rw [e] at h
  simp only [formF] at h
  split at h
  · rename_i hv
    cases h
    exact uses_dain _ _ 0 (.lit 18) (by simp; try omega) of_18 _ _ _ _ (by simp; try omega) (x22_rng w) (x18_rng w) rfl (show 0 ≤ w % 262144 ∧ w % 262144 ≤ 31 by omega)
  · cases h
theorem du_19 {w : Int} (h0 : 0 ≤ w) (h1 : w < 4294967296) (hk : w / 67108864 = 19) (i : Ins) (h : decF w = some i) : DecX w i ∧ UsesIs i.op i.d i.a i.b i.imm := by
  obtain ⟨ho, hd⟩ := decis_19 h0 h1 hk i h
  refine ⟨by unfold DecX; rw [ho]; exact dec_ex hd, ?_⟩
  have e : (w / 67108864).toNat = 19 := by omega
  unfold decF at h; rw [e] at h
  simp only [formF] at h
  split at h
  · rename_i hv
    cases h
    exact uses_dain _ _ 0 (.lit 19) (by simp; try omega) of_19 _ _ _ _ (by simp; try omega) (x22_rng w) (x18_rng w) rfl (show 0 ≤ w % 262144 ∧ w % 262144 ≤ 31 by omega)
  · cases h
theorem du_20 {w : Int} (h0 : 0 ≤ w) (h1 : w < 4294967296) (hk : w / 67108864 = 20) (i : Ins) (h : decF w = some i) : DecX w i ∧ UsesIs i.op i.d i.a i.b i.imm := by
  obtain ⟨ho, hd⟩ := decis_20 h0 h1 hk i h
  refine ⟨by unfold DecX; rw [ho]; exact dec_ex hd, ?_⟩
  have e : (w / 67108864).toNat = 20 := by omega
  unfold decF at h; rw [e] at h
  simp only [formF] at h
  split at h
  · rename_i hv
    cases h
    exact uses_dain _ _ 0 (.lit 20) (by simp; try omega) of_20 _ _ _ _ (by simp; try omega) (x22_rng w) (x18_rng w) rfl (show 0 ≤ w % 262144 ∧ w % 262144 ≤ 31 by omega)
  · cases h
theorem du_21 {w : Int} (h0 : 0 ≤ w) (h1 : w < 4294967296) (hk : w / 67108864 = 21) (i : Ins) (h : decF w = some i) : DecX w i ∧ UsesIs i.op i.d i.a i.b i.imm := by
  obtain ⟨ho, hd⟩ := decis_21 h0 h1 hk i h
  refine ⟨by unfold DecX; rw [ho]; exact dec_ex hd, ?_⟩
  have e : (w / 67108864).toNat = 21 := by omega
  unfold decF at h; rw [e] at h
  simp only [formF] at h
  cases h
  exact uses_dais _ _ 0 (.lit 21) (by simp; try omega) of_21 _ _ _ _ (by simp; try omega) (x22_rng w) (x18_rng w) rfl (s18_rng w)
theorem du_22 {w : Int} (h0 : 0 ≤ w) (h1 : w < 4294967296) (hk : w / 67108864 = 22) (i : Ins) (h : decF w = some i) : DecX w i ∧ UsesIs i.op i.d i.a i.b i.imm := by
  obtain ⟨ho, hd⟩ := decis_22 h0 h1 hk i h
  refine ⟨by unfold DecX; rw [ho]; exact dec_ex hd, ?_⟩
  have e : (w / 67108864).toNat = 22 := by omega
  unfold decF at h; rw [e] at h
  simp only [formF] at h
  cases h
  exact uses_dais _ _ 0 (.lit 22) (by simp; try omega) of_22 _ _ _ _ (by simp; try omega) (x22_rng w) (x18_rng w) rfl (s18_rng w)
theorem du_23 {w : Int} (h0 : 0 ≤ w) (h1 : w < 4294967296) (hk : w / 67108864 = 23) (i : Ins) (h : decF w = some i) : DecX w i ∧ UsesIs i.op i.d i.a i.b i.imm := by
  obtain ⟨ho, hd⟩ := decis_23 h0 h1 hk i h
  refine ⟨by unfold DecX; rw [ho]; exact dec_ex hd, ?_⟩
  have e : (w / 67108864).toNat = 23 := by omega
  unfold decF at h; rw [e] at h
  simp only [formF] at h
  split at h
  · rename_i hv
    cases h
    exact uses_diu _ _ 0 (.lit 23) (by simp; try omega) of_23 _ _ _ _ (by simp; try omega) (x22_rng w) rfl rfl (show 0 ≤ w % 4194304 ∧ w % 4194304 ≤ 262143 by omega)
  · cases h
theorem du_24 {w : Int} (h0 : 0 ≤ w) (h1 : w < 4294967296) (hk : w / 67108864 = 24) (i : Ins) (h : decF w = some i) : DecX w i ∧ UsesIs i.op i.d i.a i.b i.imm := by
  obtain ⟨ho, hd⟩ := decis_24 h0 h1 hk i h
  refine ⟨by unfold DecX; rw [ho]; exact dec_ex hd, ?_⟩
  have e : (w / 67108864).toNat = 24 := by omega
  unfold decF at h; rw [e] at h
  simp only [formF] at h
  cases h
  exact uses_dais _ _ 1 (.lit 24) (by simp; try omega) of_24 _ _ _ _ (by simp; try omega) (x22_rng w) (x18_rng w) rfl (s18_rng w)
theorem du_25 {w : Int} (h0 : 0 ≤ w) (h1 : w < 4294967296) (hk : w / 67108864 = 25) (i : Ins) (h : decF w = some i) : DecX w i ∧ UsesIs i.op i.d i.a i.b i.imm := by
  obtain ⟨ho, hd⟩ := decis_25 h0 h1 hk i h
  refine ⟨by unfold DecX; rw [ho]; exact dec_ex hd, ?_⟩
  have e : (w / 67108864).toNat = 25 := by omega
  unfold decF at h; rw [e] at h
  simp only [formF] at h
  cases h
  exact uses_dais _ _ 1 (.lit 25) (by simp; try omega) of_25 _ _ _ _ (by simp; try omega) (x22_rng w) (x18_rng w) rfl (s18_rng w)
theorem du_26 {w : Int} (h0 : 0 ≤ w) (h1 : w < 4294967296) (hk : w / 67108864 = 26) (i : Ins) (h : decF w = some i) : DecX w i ∧ UsesIs i.op i.d i.a i.b i.imm := by
  obtain ⟨ho, hd⟩ := decis_26 h0 h1 hk i h
  refine ⟨by unfold DecX; rw [ho]; exact dec_ex hd, ?_⟩
  have e : (w / 67108864).toNat = 26 := by omega
  unfold decF at h; rw [e] at h
  simp only [formF] at h
  cases h
  exact uses_dais _ _ 1 (.lit 26) (by simp; try omega) of_26 _ _ _ _ (by simp; try omega) (x22_rng w) (x18_rng w) rfl (s18_rng w)
theorem du_27 {w : Int} (h0 : 0 ≤ w) (h1 : w < 4294967296) (hk : w / 67108864 = 27) (i : Ins) (h : decF w = some i) : DecX w i ∧ UsesIs i.op i.d i.a i.b i.imm := by
  obtain ⟨ho, hd⟩ := decis_27 h0 h1 hk i h
  refine ⟨by unfold DecX; rw [ho]; exact dec_ex hd, ?_⟩
  have e : (w / 67108864).toNat = 27 := by omega
  unfold decF at h; rw [e] at h
  simp only [formF] at h
  cases h
  exact uses_dais _ _ 1 (.lit 27) (by simp; try omega) of_27 _ _ _ _ (by simp; try omega) (x22_rng w) (x18_rng w) rfl (s18_rng w)
theorem du_28 {w : Int} (h0 : 0 ≤ w) (h1 : w < 4294967296) (hk : w / 67108864 = 28) (i : Ins) (h : decF w = some i) : DecX w i ∧ UsesIs i.op i.d i.a i.b i.imm := by
  obtain ⟨ho, hd⟩ := decis_28 h0 h1 hk i h
  refine ⟨by unfold DecX; rw [ho]; exact dec_ex hd, ?_⟩
  have e : (w / 67108864).toNat = 28 := by omega
  unfold decF at h; rw [e] at h
  simp only [formF] at h
  cases h
  exact uses_dais _ _ 1 (.lit 28) (by simp; try omega) of_28 _ _ _ _ (by simp; try omega) (x22_rng w) (x18_rng w) rfl (s18_rng w)
theorem du_29 {w : Int} (h0 : 0 ≤ w) (h1 : w < 4294967296) (hk : w / 67108864 = 29) (i : Ins) (h : decF w = some i) : DecX w i ∧ UsesIs i.op i.d i.a i.b i.imm := by
  obtain ⟨ho, hd⟩ := decis_29 h0 h1 hk i h
  refine ⟨by unfold DecX; rw [ho]; exact dec_ex hd, ?_⟩
  have e : (w / 67108864).toNat = 29 := by omega
  unfold decF at h; rw [e] at h
  simp only [formF] at h
  cases h
  exact uses_abis _ _ 1 (.lit 29) (by simp; try omega) of_29 _ _ _ _ (by simp; try omega) rfl (x22_rng w) (x18_rng w) (s18_rng w)
theorem du_30 {w : Int} (h0 : 0 ≤ w) (h1 : w < 4294967296) (hk : w / 67108864 = 30) (i : Ins) (h : decF w = some i) : DecX w i ∧ UsesIs i.op i.d i.a i.b i.imm := by
  obtain ⟨ho, hd⟩ := decis_30 h0 h1 hk i h
  refine ⟨by unfold DecX; rw [ho]; exact dec_ex hd, ?_⟩
  have e : (w / 67108864).toNat = 30 := by omega
  unfold decF at h; rw [e] at h
  simp only [formF] at h
  cases h
  exact uses_abis _ _ 1 (.lit 30) (by simp; try omega) of_30 _ _ _ _ (by simp; try omega) rfl (x22_rng w) (x18_rng w) (s18_rng w)
theorem du_31 {w : Int} (h0 : 0 ≤ w) (h1 : w < 4294967296) (hk : w / 67108864 = 31) (i : Ins) (h : decF w = some i) : DecX w i ∧ UsesIs i.op i.d i.a i.b i.imm := by
  obtain ⟨ho, hd⟩ := decis_31 h0 h1 hk i h
  refine ⟨by unfold DecX; rw [ho]; exact dec_ex hd, ?_⟩
  have e : (w / 67108864).toNat = 31 := by omega
  unfold decF at h; rw [e] at h
  simp only [formF] at h
  cases h
  exact uses_abis _ _ 1 (.lit 31) (by simp; try omega) of_31 _ _ _ _ (by simp; try omega) rfl (x22_rng w) (x18_rng w) (s18_rng w)
theorem du_32 {w : Int} (h0 : 0 ≤ w) (h1 : w < 4294967296) (hk : w / 67108864 = 32) (i : Ins) (h : decF w = some i) : DecX w i ∧ UsesIs i.op i.d i.a i.b i.imm := by
  obtain ⟨ho, hd⟩ := decis_32 h0 h1 hk i h
  refine ⟨by unfold DecX; rw [ho]; exact dec_ex hd, ?_⟩
  have e : (w / 67108864).toNat = 32 := by omega
  unfold decF at h; rw [e] at h
  simp only [formF] at h
  cases h
  exact uses_abis _ _ 0 (.lit 32) (by simp; try omega) of_32 _ _ _ _ (by simp; try omega) rfl (x22_rng w) (x18_rng w) (s18_rng w)
theorem du_33 {w : Int} (h0 : 0 ≤ w) (h1 : w < 4294967296) (hk : w / 67108864 = 33) (i : Ins) (h : decF w = some i) : DecX w i ∧ UsesIs i.op i.d i.a i.b i.imm := by
  obtain ⟨ho, hd⟩ := decis_33 h0 h1 hk i h
  refine ⟨by unfold DecX; rw [ho]; exact dec_ex hd, ?_⟩
  have e : (w / 67108864).toNat = 33 := by omega
  unfold decF at h; rw [e] at h
  simp only [formF] at h
  cases h
  exact uses_abis _ _ 0 (.lit 33) (by simp; try omega) of_33 _ _ _ _ (by simp; try omega) rfl (x22_rng w) (x18_rng w) (s18_rng w)
theorem du_34 {w : Int} (h0 : 0 ≤ w) (h1 : w < 4294967296) (hk : w / 67108864 = 34) (i : Ins) (h : decF w = some i) : DecX w i ∧ UsesIs i.op i.d i.a i.b i.imm := by
  obtain ⟨ho, hd⟩ := decis_34 h0 h1 hk i h
  refine ⟨by unfold DecX; rw [ho]; exact dec_ex hd, ?_⟩
  have e : (w / 67108864).toNat = 34 := by omega
  unfold decF at h; rw [e] at h
  simp only [formF] at h
  cases h
  exact uses_abis _ _ 0 (.lit 34) (by simp; try omega) of_34 _ _ _ _ (by simp; try omega) rfl (x22_rng w) (x18_rng w) (s18_rng w)
theorem du_35 {w : Int} (h0 : 0 ≤ w) (h1 : w < 4294967296) (hk : w / 67108864 = 35) (i : Ins) (h : decF w = some i) : DecX w i ∧ UsesIs i.op i.d i.a i.b i.imm := by
  obtain ⟨ho, hd⟩ := decis_35 h0 h1 hk i h
  refine ⟨by unfold DecX; rw [ho]; exact dec_ex hd, ?_⟩
  have e : (w / 67108864).toNat = 35 := by omega
  unfold decF at h; rw [e] at h
  simp only [formF] at h
  cases h
  exact uses_abis _ _ 0 (.lit 35) (by simp; try omega) of_35 _ _ _ _ (by simp; try omega) rfl (x22_rng w) (x18_rng w) (s18_rng w)
theorem du_36 {w : Int} (h0 : 0 ≤ w) (h1 : w < 4294967296) (hk : w / 67108864 = 36) (i : Ins) (h : decF w = some i) : DecX w i ∧ UsesIs i.op i.d i.a i.b i.imm := by
  obtain ⟨ho, hd⟩ := decis_36 h0 h1 hk i h
  refine ⟨by unfold DecX; rw [ho]; exact dec_ex hd, ?_⟩
  have e : (w / 67108864).toNat = 36 := by omega
  unfold decF at h; rw [e] at h
  simp only [formF] at h
  cases h
  exact uses_abis _ _ 0 (.lit 36) (by simp; try omega) of_36 _ _ _ _ (by simp; try omega) rfl (x22_rng w) (x18_rng w) (s18_rng w)
theorem du_37 {w : Int} (h0 : 0 ≤ w) (h1 : w < 4294967296) (hk : w / 67108864 = 37) (i : Ins) (h : decF w = some i) : DecX w i ∧ UsesIs i.op i.d i.a i.b i.imm := by
  obtain ⟨ho, hd⟩ := decis_37 h0 h1 hk i h
  refine ⟨by unfold DecX; rw [ho]; exact dec_ex hd, ?_⟩
  have e : (w / 67108864).toNat = 37 := by omega
  unfold decF at h; rw [e] at h
  simp only [formF] at h
  cases h
  exact uses_abis _ _ 0 (.lit 37) (by simp; try omega) of_37 _ _ _ _ (by simp; try omega) rfl (x22_rng w) (x18_rng w) (s18_rng w)
theorem du_38 {w : Int} (h0 : 0 ≤ w) (h1 : w < 4294967296) (hk : w / 67108864 = 38) (i : Ins) (h : decF w = some i) : DecX w i ∧ UsesIs i.op i.d i.a i.b i.imm := by
  obtain ⟨ho, hd⟩ := decis_38 h0 h1 hk i h
  refine ⟨by unfold DecX; rw [ho]; exact dec_ex hd, ?_⟩
  have e : (w / 67108864).toNat = 38 := by omega
  unfold decF at h; rw [e] at h
  simp only [formF] at h
  cases h
  exact uses_dis _ _ 0 (.lit 38) (by simp; try omega) of_38 _ _ _ _ (by simp; try omega) (x22_rng w) rfl rfl (s22_rng w)
theorem du_39 {w : Int} (h0 : 0 ≤ w) (h1 : w < 4294967296) (hk : w / 67108864 = 39) (i : Ins) (h : decF w = some i) : DecX w i ∧ UsesIs i.op i.d i.a i.b i.imm := by
  obtain ⟨ho, hd⟩ := decis_39 h0 h1 hk i h
  refine ⟨by unfold DecX; rw [ho]; exact dec_ex hd, ?_⟩
  have e : (w / 67108864).toNat = 39 := by omega
  unfold decF at h; rw [e] at h
  simp only [formF] at h
  cases h
  exact uses_dais _ _ 0 (.lit 39) (by simp; try omega) of_39 _ _ _ _ (by simp; try omega) (x22_rng w) (x18_rng w) rfl (s18_rng w)
theorem du_40 {w : Int} (h0 : 0 ≤ w) (h1 : w < 4294967296) (hk : w / 67108864 = 40) (i : Ins) (h : decF w = some i) : DecX w i ∧ UsesIs i.op i.d i.a i.b i.imm := by
  obtain ⟨ho, hd⟩ := decis_40 h0 h1 hk i h
  refine ⟨by unfold DecX; rw [ho]; exact dec_ex hd, ?_⟩
  have e : (w / 67108864).toNat = 40 := by omega
  unfold decF at h; rw [e] at h
  simp only [formF] at h
  split at h
  · rename_i hv
    cases h
    exact uses_iu _ _ 0 (.lit 40) (by simp; try omega) of_40 _ _ _ _ (by simp; try omega) rfl rfl rfl (show 0 ≤ w % 67108864 ∧ w % 67108864 ≤ 262143 by omega)
  · cases h
theorem du_41 {w : Int} (h0 : 0 ≤ w) (h1 : w < 4294967296) (hk : w / 67108864 = 41) (i : Ins) (h : decF w = some i) : DecX w i ∧ UsesIs i.op i.d i.a i.b i.imm := by
  obtain ⟨ho, hd⟩ := decis_41 h0 h1 hk i h
  refine ⟨by unfold DecX; rw [ho]; exact dec_ex hd, ?_⟩
  have e : (w / 67108864).toNat = 41 := by omega
  unfold decF at h; rw [e] at h
  simp only [formF] at h
  split at h
  · rename_i hv
    cases h
    exact uses_d _ _ 0 (.lit 41) (by simp; try omega) of_41 _ _ _ _ (by simp; try omega) (x22_rng w) rfl rfl rfl
  · cases h
theorem du_42 {w : Int} (h0 : 0 ≤ w) (h1 : w < 4294967296) (hk : w / 67108864 = 42) (i : Ins) (h : decF w = some i) : DecX w i ∧ UsesIs i.op i.d i.a i.b i.imm := by
  obtain ⟨ho, hd⟩ := decis_42 h0 h1 hk i h
  refine ⟨by unfold DecX; rw [ho]; exact dec_ex hd, ?_⟩
  have e : (w / 67108864).toNat = 42 := by omega
  unfold decF at h; rw [e] at h
  simp only [formF] at h
  split at h
  · rename_i hv
    cases h
    exact uses_n _ _ 0 (.lit 42) (by simp; try omega) of_42 _ _ _ _ (by simp; try omega) rfl rfl rfl rfl
  · cases h
theorem du_43 {w : Int} (h0 : 0 ≤ w) (h1 : w < 4294967296) (hk : w / 67108864 = 43) (i : Ins) (h : decF w = some i) : DecX w i ∧ UsesIs i.op i.d i.a i.b i.imm := by
  obtain ⟨ho, hd⟩ := decis_43 h0 h1 hk i h
  refine ⟨by unfold DecX; rw [ho]; exact dec_ex hd, ?_⟩
  have e : (w / 67108864).toNat = 43 := by omega
  unfold decF at h; rw [e] at h
  simp only [formF] at h
  split at h
  · rename_i hv
    cases h
    exact uses_n _ _ 0 (.lit 43) (by simp; try omega) of_43 _ _ _ _ (by simp; try omega) rfl rfl rfl rfl
  · cases h
theorem du_44 {w : Int} (h0 : 0 ≤ w) (h1 : w < 4294967296) (hk : w / 67108864 = 44) (i : Ins) (h : decF w = some i) : DecX w i ∧ UsesIs i.op i.d i.a i.b i.imm := by
  obtain ⟨ho, hd⟩ := decis_44 h0 h1 hk i h
  refine ⟨by unfold DecX; rw [ho]; exact dec_ex hd, ?_⟩
  have e : (w / 67108864).toNat = 44 := by omega
  unfold decF at h; rw [e] at h
  simp only [formF] at h
  split at h
  · rename_i hv
    cases h
    exact uses_n _ _ 0 (.lit 44) (by simp; try omega) of_44 _ _ _ _ (by simp; try omega) rfl rfl rfl rfl
  · cases h
theorem du_45 {w : Int} (h0 : 0 ≤ w) (h1 : w < 4294967296) (hk : w / 67108864 = 45) (i : Ins) (h : decF w = some i) : DecX w i ∧ UsesIs i.op i.d i.a i.b i.imm := by
  obtain ⟨ho, hd⟩ := decis_45 h0 h1 hk i h
  refine ⟨by unfold DecX; rw [ho]; exact dec_ex hd, ?_⟩
  have e : (w / 67108864).toNat = 45 := by omega
  unfold decF at h; rw [e] at h
  simp only [formF] at h
  split at h
  · rename_i hv
    cases h
    exact uses_n _ _ 0 (.lit 45) (by simp; try omega) of_45 _ _ _ _ (by simp; try omega) rfl rfl rfl rfl
  · cases h
theorem du_46 {w : Int} (h0 : 0 ≤ w) (h1 : w < 4294967296) (hk : w / 67108864 = 46) (i : Ins) (h : decF w = some i) : DecX w i ∧ UsesIs i.op i.d i.a i.b i.imm := by
  obtain ⟨ho, hd⟩ := decis_46 h0 h1 hk i h
  refine ⟨by unfold DecX; rw [ho]; exact dec_ex hd, ?_⟩
  have e : (w / 67108864).toNat = 46 := by omega
  unfold decF at h; rw [e] at h
  simp only [formF] at h
  split at h
  · rename_i hv
    cases h
    exact uses_a _ _ 0 (.lit 46) (by simp; try omega) of_46 _ _ _ _ (by simp; try omega) rfl (x22_rng w) rfl rfl
  · cases h
theorem du_47 {w : Int} (h0 : 0 ≤ w) (h1 : w < 4294967296) (hk : w / 67108864 = 47) (i : Ins) (h : decF w = some i) : DecX w i ∧ UsesIs i.op i.d i.a i.b i.imm := by
  obtain ⟨ho, hd⟩ := decis_47 h0 h1 hk i h
  refine ⟨by unfold DecX; rw [ho]; exact dec_ex hd, ?_⟩
  have e : (w / 67108864).toNat = 47 := by omega
  unfold decF at h; rw [e] at h
  simp only [formF] at h
  split at h
  · rename_i hv
    cases h
    exact uses_n _ _ 0 (.lit 47) (by simp; try omega) of_47 _ _ _ _ (by simp; try omega) rfl rfl rfl rfl
  · cases h
theorem du_48 {w : Int} (h0 : 0 ≤ w) (h1 : w < 4294967296) (hk : w / 67108864 = 48) (i : Ins) (h : decF w = some i) : DecX w i ∧ UsesIs i.op i.d i.a i.b i.imm := by
  obtain ⟨ho, hd⟩ := decis_48 h0 h1 hk i h
  refine ⟨by unfold DecX; rw [ho]; exact dec_ex hd, ?_⟩
  have e : (w / 67108864).toNat = 48 := by omega
  unfold decF at h; rw [e] at h
  simp only [formF] at h
  split at h
  · rename_i hv
    cases h
    exact uses_n _ _ 0 (.lit 48) (by simp; try omega) of_48 _ _ _ _ (by simp; try omega) rfl rfl rfl rfl
  · cases h
theorem dec_uses {w : Int} (h0 : 0 ≤ w) (h1 : w < 4294967296) (i : Ins) (h : decF w = some i) : DecX w i ∧ UsesIs i.op i.d i.a i.b i.imm := by
  rcases k_cases h0 h1 with hk | hk | hk | hk | hk | hk | hk | hk | hk | hk | hk | hk | hk | hk | hk | hk | hk | hk | hk | hk | hk | hk | hk | hk | hk | hk | hk | hk | hk | hk | hk | hk | hk | hk | hk | hk | hk | hk | hk | hk | hk | hk | hk | hk | hk | hk | hk | hk | hk
  · exfalso
    have : formF (w / 67108864).toNat = 0 := by
      have e : (w / 67108864).toNat = 0 ∨ 49 ≤ (w / 67108864).toNat := by omega
      rcases e with e | e
      · rw [e]; rfl
      · obtain ⟨m, hm⟩ := Nat.exists_eq_add_of_le e
        rw [hm, Nat.add_comm]; rfl
    unfold decF at h; simp only [this] at h; cases h
  · exact du_1 h0 h1 hk i h
  · exact du_2 h0 h1 hk i h
  · exact du_3 h0 h1 hk i h
  · exact du_4 h0 h1 hk i h
  · exact du_5 h0 h1 hk i h
  · exact du_6 h0 h1 hk i h
  · exact du_7 h0 h1 hk i h
  · exact du_8 h0 h1 hk i h
  · exact du_9 h0 h1 hk i h
  · exact du_10 h0 h1 hk i h
  · exact du_11 h0 h1 hk i h
  · exact du_12 h0 h1 hk i h
  · exact du_13 h0 h1 hk i h
  · exact du_14 h0 h1 hk i h
  · exact du_15 h0 h1 hk i h
  · exact du_16 h0 h1 hk i h
  · exact du_17 h0 h1 hk i h
  · exact du_18 h0 h1 hk i h
  · exact du_19 h0 h1 hk i h
  · exact du_20 h0 h1 hk i h
  · exact du_21 h0 h1 hk i h
  · exact du_22 h0 h1 hk i h
  · exact du_23 h0 h1 hk i h
  · exact du_24 h0 h1 hk i h
  · exact du_25 h0 h1 hk i h
  · exact du_26 h0 h1 hk i h
  · exact du_27 h0 h1 hk i h
  · exact du_28 h0 h1 hk i h
  · exact du_29 h0 h1 hk i h
  · exact du_30 h0 h1 hk i h
  · exact du_31 h0 h1 hk i h
  · exact du_32 h0 h1 hk i h
  · exact du_33 h0 h1 hk i h
  · exact du_34 h0 h1 hk i h
  · exact du_35 h0 h1 hk i h
  · exact du_36 h0 h1 hk i h
  · exact du_37 h0 h1 hk i h
  · exact du_38 h0 h1 hk i h
  · exact du_39 h0 h1 hk i h
  · exact du_40 h0 h1 hk i h
  · exact du_41 h0 h1 hk i h
  · exact du_42 h0 h1 hk i h
  · exact du_43 h0 h1 hk i h
  · exact du_44 h0 h1 hk i h
  · exact du_45 h0 h1 hk i h
  · exact du_46 h0 h1 hk i h
  · exact du_47 h0 h1 hk i h
  · exact du_48 h0 h1 hk i h
end Go.Proofs.YtkljgpepogkgdaaDoor
