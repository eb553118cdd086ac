/-
  Merged: TF TG TH.
-/
import Derived.Test.YtkljgpepogkgdaaDoorRX
import Derived.Test.YtkljgpepogkgdaaDoorRD
import Derived.Test.YtkljgpepogkgdaaDoorTX
import Derived.Test.YtkljgpepogkgdaaDoorTY
import Derived.Test.YtkljgpepogkgdaaDoorTZ
set_option linter.unusedVariables false
set_option linter.unusedSimpArgs false
namespace Go.Proofs.YtkljgpepogkgdaaDoor
open Go Go.Vex
set_option maxRecDepth 20000
set_option maxHeartbeats 4000000
abbrev RTailF (s : RegS) (bd : BoardS) (F : Option (Nat × Nat) → Own → World → Prop) (w cyc : Int) (o : Out) : Prop := RTailOk s bd F w cyc (.lit 0) o.res o.regs o.bd
theorem Spec1.val {C : Kit} {f : Nat} {args : List SV} {hp0 : List Blk} {q1 : Bool} {v v' : SV} {hp1 new : List Blk} (h : Spec1 C f args hp0 q1 v hp1 new) (hv : leV v v') : Spec1 C f args hp0 q1 v' hp1 new := by
  refine ⟨h.len, fun F => ⟨(h.out F).ok, fun ρ w vals hd hs => ((h.out F).out ρ w vals hd hs).mono ?_⟩⟩
  rintro e w' ⟨q, ρ', u, c, hp', rfl, k1, k2, k3, k4, k5, rfl, rfl, k6⟩
  exact ⟨q, ρ', v', c, hp', rfl, k1, leV.den k2 hv, k3, k4, k5, rfl, rfl, k6⟩
theorem apis0 {w : Int} {op : S Int} {x y z : Int} (h : Spec1 kit 32 [.i .u32 (.ex w)] [] false (.agg [.i .i64 op, .i .i64 (.ex x), .i .i64 (.ex y), .i .i64 (.ex z), .i .i64 (.lit 0)]) [] []) : ApIs w op x y z 0 := by
  refine Spec1.val h ?_
  cases op <;> cbv
theorem xr {w : Int} : (0 ≤ x22 w ∧ x22 w < 16) ∧ (0 ≤ x18 w ∧ x18 w < 16) ∧ (0 ≤ x14 w ∧ x14 w < 16) := by unfold x22 x18 x14; omega
theorem rtl_1 {s : RegS} {bd : BoardS} {F : Option (Nat × Nat) → Own → World → Prop} {w : Int} (cyc : Int) (hs : RegOk s) (hz0 : s.r.set 0 0 = s.r) (hbd : BdOk bd) (h0 : 0 ≤ w) (h1 : w < 4294967296) (hk : w / 67108864 = 1) (i : Ins) (h : decF w = some i) : RTailF s bd F w cyc (execF i.op i.d i.a i.b i.imm s bd cyc) := by
  have e : (w / 67108864).toNat = 1 := by omega
  unfold decF at h; rw [e] at h
  simp only [formF] at h
  by_cases hv : w % 16384 = 0
  case neg => rw [if_neg hv] at h; cases h
  rw [if_pos hv] at h
  cases h
  obtain ⟨r, pc, vec, back, on, hdl⟩ := s
  obtain ⟨g1, g2, g3⟩ := xr (w := w)
  have hap : ApIs w (.lit 0) (x22 w) (x18 w) (x14 w) 0 := apis0 (apart_1 h0 h1 hk hv _ _ _ _ _ _ _ rfl rfl rfl rfl rfl rfl rfl)
  show RTailF _ _ _ _ _ (execF 1 (x22 w) (x18 w) (x14 w) 0 _ bd cyc)
  exact rtail_1 r pc vec back on hdl bd F w cyc (x22 w) (x18 w) (x14 w) 0 hs hz0 hbd g1 g2 g3 hap _ _ _ rfl rfl rfl
theorem rtl_2 {s : RegS} {bd : BoardS} {F : Option (Nat × Nat) → Own → World → Prop} {w : Int} (cyc : Int) (hs : RegOk s) (hz0 : s.r.set 0 0 = s.r) (hbd : BdOk bd) (h0 : 0 ≤ w) (h1 : w < 4294967296) (hk : w / 67108864 = 2) (i : Ins) (h : decF w = some i) : RTailF s bd F w cyc (execF i.op i.d i.a i.b i.imm s bd cyc) := by
  have e : (w / 67108864).toNat = 2 := by omega
  unfold decF at h; rw [e] at h
  simp only [formF] at h
  by_cases hv : w % 16384 = 0
  case neg => rw [if_neg hv] at h; cases h
  rw [if_pos hv] at h
  cases h
  obtain ⟨r, pc, vec, back, on, hdl⟩ := s
  obtain ⟨g1, g2, g3⟩ := xr (w := w)
  have hap : ApIs w (.lit 1) (x22 w) (x18 w) (x14 w) 0 := apis0 (apart_2 h0 h1 hk hv _ _ _ _ _ _ _ rfl rfl rfl rfl rfl rfl rfl)
  show RTailF _ _ _ _ _ (execF 2 (x22 w) (x18 w) (x14 w) 0 _ bd cyc)
  exact rtail_2 r pc vec back on hdl bd F w cyc (x22 w) (x18 w) (x14 w) 0 hs hz0 hbd g1 g2 g3 hap _ _ _ rfl rfl rfl
theorem rtl_3 {s : RegS} {bd : BoardS} {F : Option (Nat × Nat) → Own → World → Prop} {w : Int} (cyc : Int) (hs : RegOk s) (hz0 : s.r.set 0 0 = s.r) (hbd : BdOk bd) (h0 : 0 ≤ w) (h1 : w < 4294967296) (hk : w / 67108864 = 3) (i : Ins) (h : decF w = some i) : RTailF s bd F w cyc (execF i.op i.d i.a i.b i.imm s bd cyc) := by
  have e : (w / 67108864).toNat = 3 := by omega
  unfold decF at h; rw [e] at h
  simp only [formF] at h
  by_cases hv : w % 16384 = 0
  case neg => rw [if_neg hv] at h; cases h
  rw [if_pos hv] at h
  cases h
  obtain ⟨r, pc, vec, back, on, hdl⟩ := s
  obtain ⟨g1, g2, g3⟩ := xr (w := w)
  have hap : ApIs w (.lit 2) (x22 w) (x18 w) (x14 w) 0 := apis0 (apart_3 h0 h1 hk hv _ _ _ _ _ _ _ rfl rfl rfl rfl rfl rfl rfl)
  show RTailF _ _ _ _ _ (execF 3 (x22 w) (x18 w) (x14 w) 0 _ bd cyc)
  exact rtail_3 r pc vec back on hdl bd F w cyc (x22 w) (x18 w) (x14 w) 0 hs hz0 hbd g1 g2 g3 hap _ _ _ rfl rfl rfl
theorem rtl_4 {s : RegS} {bd : BoardS} {F : Option (Nat × Nat) → Own → World → Prop} {w : Int} (cyc : Int) (hs : RegOk s) (hz0 : s.r.set 0 0 = s.r) (hbd : BdOk bd) (h0 : 0 ≤ w) (h1 : w < 4294967296) (hk : w / 67108864 = 4) (i : Ins) (h : decF w = some i) : RTailF s bd F w cyc (execF i.op i.d i.a i.b i.imm s bd cyc) := by
  have e : (w / 67108864).toNat = 4 := by omega
  unfold decF at h; rw [e] at h
  simp only [formF] at h
  by_cases hv : w % 16384 = 0
  case neg => rw [if_neg hv] at h; cases h
  rw [if_pos hv] at h
  cases h
  obtain ⟨r, pc, vec, back, on, hdl⟩ := s
  obtain ⟨g1, g2, g3⟩ := xr (w := w)
  have hap : ApIs w (.lit 3) (x22 w) (x18 w) (x14 w) 0 := apis0 (apart_4 h0 h1 hk hv _ _ _ _ _ _ _ rfl rfl rfl rfl rfl rfl rfl)
  show RTailF _ _ _ _ _ (execF 4 (x22 w) (x18 w) (x14 w) 0 _ bd cyc)
  exact rtail_4 r pc vec back on hdl bd F w cyc (x22 w) (x18 w) (x14 w) 0 hs hz0 hbd g1 g2 g3 hap _ _ _ rfl rfl rfl
theorem rtl_5 {s : RegS} {bd : BoardS} {F : Option (Nat × Nat) → Own → World → Prop} {w : Int} (cyc : Int) (hs : RegOk s) (hz0 : s.r.set 0 0 = s.r) (hbd : BdOk bd) (h0 : 0 ≤ w) (h1 : w < 4294967296) (hk : w / 67108864 = 5) (i : Ins) (h : decF w = some i) : RTailF s bd F w cyc (execF i.op i.d i.a i.b i.imm s bd cyc) := by
  have e : (w / 67108864).toNat = 5 := by omega
  unfold decF at h; rw [e] at h
  simp only [formF] at h
  by_cases hv : w % 16384 = 0
  case neg => rw [if_neg hv] at h; cases h
  rw [if_pos hv] at h
  cases h
  obtain ⟨r, pc, vec, back, on, hdl⟩ := s
  obtain ⟨g1, g2, g3⟩ := xr (w := w)
  have hap : ApIs w (.lit 4) (x22 w) (x18 w) (x14 w) 0 := apis0 (apart_5 h0 h1 hk hv _ _ _ _ _ _ _ rfl rfl rfl rfl rfl rfl rfl)
  show RTailF _ _ _ _ _ (execF 5 (x22 w) (x18 w) (x14 w) 0 _ bd cyc)
  exact rtail_5 r pc vec back on hdl bd F w cyc (x22 w) (x18 w) (x14 w) 0 hs hz0 hbd g1 g2 g3 hap _ _ _ rfl rfl rfl
theorem rtl_6 {s : RegS} {bd : BoardS} {F : Option (Nat × Nat) → Own → World → Prop} {w : Int} (cyc : Int) (hs : RegOk s) (hz0 : s.r.set 0 0 = s.r) (hbd : BdOk bd) (h0 : 0 ≤ w) (h1 : w < 4294967296) (hk : w / 67108864 = 6) (i : Ins) (h : decF w = some i) : RTailF s bd F w cyc (execF i.op i.d i.a i.b i.imm s bd cyc) := by
  have e : (w / 67108864).toNat = 6 := by omega
  unfold decF at h; rw [e] at h
  simp only [formF] at h
  by_cases hv : w % 16384 = 0
  case neg => rw [if_neg hv] at h; cases h
  rw [if_pos hv] at h
  cases h
  obtain ⟨r, pc, vec, back, on, hdl⟩ := s
  obtain ⟨g1, g2, g3⟩ := xr (w := w)
  have hap : ApIs w (.lit 5) (x22 w) (x18 w) (x14 w) 0 := apis0 (apart_6 h0 h1 hk hv _ _ _ _ _ _ _ rfl rfl rfl rfl rfl rfl rfl)
  show RTailF _ _ _ _ _ (execF 6 (x22 w) (x18 w) (x14 w) 0 _ bd cyc)
  exact rtail_6 r pc vec back on hdl bd F w cyc (x22 w) (x18 w) (x14 w) 0 hs hz0 hbd g1 g2 g3 hap _ _ _ rfl rfl rfl
theorem rtl_7 {s : RegS} {bd : BoardS} {F : Option (Nat × Nat) → Own → World → Prop} {w : Int} (cyc : Int) (hs : RegOk s) (hz0 : s.r.set 0 0 = s.r) (hbd : BdOk bd) (h0 : 0 ≤ w) (h1 : w < 4294967296) (hk : w / 67108864 = 7) (i : Ins) (h : decF w = some i) : RTailF s bd F w cyc (execF i.op i.d i.a i.b i.imm s bd cyc) := by
  have e : (w / 67108864).toNat = 7 := by omega
  unfold decF at h; rw [e] at h
  simp only [formF] at h
  by_cases hv : w % 16384 = 0
  case neg => rw [if_neg hv] at h; cases h
  rw [if_pos hv] at h
  cases h
  obtain ⟨r, pc, vec, back, on, hdl⟩ := s
  obtain ⟨g1, g2, g3⟩ := xr (w := w)
  have hap : ApIs w (.lit 6) (x22 w) (x18 w) (x14 w) 0 := apis0 (apart_7 h0 h1 hk hv _ _ _ _ _ _ _ rfl rfl rfl rfl rfl rfl rfl)
  show RTailF _ _ _ _ _ (execF 7 (x22 w) (x18 w) (x14 w) 0 _ bd cyc)
  exact rtail_7 r pc vec back on hdl bd F w cyc (x22 w) (x18 w) (x14 w) 0 hs hz0 hbd g1 g2 g3 hap _ _ _ rfl rfl rfl
theorem rtl_8 {s : RegS} {bd : BoardS} {F : Option (Nat × Nat) → Own → World → Prop} {w : Int} (cyc : Int) (hs : RegOk s) (hz0 : s.r.set 0 0 = s.r) (hbd : BdOk bd) (h0 : 0 ≤ w) (h1 : w < 4294967296) (hk : w / 67108864 = 8) (i : Ins) (h : decF w = some i) : RTailF s bd F w cyc (execF i.op i.d i.a i.b i.imm s bd cyc) := by
  have e : (w / 67108864).toNat = 8 := by omega
  unfold decF at h; rw [e] at h
  simp only [formF] at h
  by_cases hv : w % 16384 = 0
  case neg => rw [if_neg hv] at h; cases h
  rw [if_pos hv] at h
  cases h
  obtain ⟨r, pc, vec, back, on, hdl⟩ := s
  obtain ⟨g1, g2, g3⟩ := xr (w := w)
  have hap : ApIs w (.lit 7) (x22 w) (x18 w) (x14 w) 0 := apis0 (apart_8 h0 h1 hk hv _ _ _ _ _ _ _ rfl rfl rfl rfl rfl rfl rfl)
  show RTailF _ _ _ _ _ (execF 8 (x22 w) (x18 w) (x14 w) 0 _ bd cyc)
  exact rtail_8 r pc vec back on hdl bd F w cyc (x22 w) (x18 w) (x14 w) 0 hs hz0 hbd g1 g2 g3 hap _ _ _ rfl rfl rfl
theorem rtl_9 {s : RegS} {bd : BoardS} {F : Option (Nat × Nat) → Own → World → Prop} {w : Int} (cyc : Int) (hs : RegOk s) (hz0 : s.r.set 0 0 = s.r) (hbd : BdOk bd) (h0 : 0 ≤ w) (h1 : w < 4294967296) (hk : w / 67108864 = 9) (i : Ins) (h : decF w = some i) : RTailF s bd F w cyc (execF i.op i.d i.a i.b i.imm s bd cyc) := by
  have e : (w / 67108864).toNat = 9 := by omega
  unfold decF at h; rw [e] at h
  simp only [formF] at h
  by_cases hv : w % 16384 = 0
  case neg => rw [if_neg hv] at h; cases h
  rw [if_pos hv] at h
  cases h
  obtain ⟨r, pc, vec, back, on, hdl⟩ := s
  obtain ⟨g1, g2, g3⟩ := xr (w := w)
  have hap : ApIs w (.lit 8) (x22 w) (x18 w) (x14 w) 0 := apis0 (apart_9 h0 h1 hk hv _ _ _ _ _ _ _ rfl rfl rfl rfl rfl rfl rfl)
  show RTailF _ _ _ _ _ (execF 9 (x22 w) (x18 w) (x14 w) 0 _ bd cyc)
  exact rtail_9 r pc vec back on hdl bd F w cyc (x22 w) (x18 w) (x14 w) 0 hs hz0 hbd g1 g2 g3 hap _ _ _ rfl rfl rfl
theorem rtl_10 {s : RegS} {bd : BoardS} {F : Option (Nat × Nat) → Own → World → Prop} {w : Int} (cyc : Int) (hs : RegOk s) (hz0 : s.r.set 0 0 = s.r) (hbd : BdOk bd) (h0 : 0 ≤ w) (h1 : w < 4294967296) (hk : w / 67108864 = 10) (i : Ins) (h : decF w = some i) : RTailF s bd F w cyc (execF i.op i.d i.a i.b i.imm s bd cyc) := by
  have e : (w / 67108864).toNat = 10 := by omega
  unfold decF at h; rw [e] at h
  simp only [formF] at h
  by_cases hv : w % 16384 = 0
  case neg => rw [if_neg hv] at h; cases h
  rw [if_pos hv] at h
  cases h
  obtain ⟨r, pc, vec, back, on, hdl⟩ := s
  obtain ⟨g1, g2, g3⟩ := xr (w := w)
  have hap : ApIs w (.lit 9) (x22 w) (x18 w) (x14 w) 0 := apis0 (apart_10 h0 h1 hk hv _ _ _ _ _ _ _ rfl rfl rfl rfl rfl rfl rfl)
  show RTailF _ _ _ _ _ (execF 10 (x22 w) (x18 w) (x14 w) 0 _ bd cyc)
  exact rtail_10 r pc vec back on hdl bd F w cyc (x22 w) (x18 w) (x14 w) 0 hs hz0 hbd g1 g2 g3 hap _ _ _ rfl rfl rfl
theorem rtl_11 {s : RegS} {bd : BoardS} {F : Option (Nat × Nat) → Own → World → Prop} {w : Int} (cyc : Int) (hs : RegOk s) (hz0 : s.r.set 0 0 = s.r) (hbd : BdOk bd) (h0 : 0 ≤ w) (h1 : w < 4294967296) (hk : w / 67108864 = 11) (i : Ins) (h : decF w = some i) : RTailF s bd F w cyc (execF i.op i.d i.a i.b i.imm s bd cyc) := by
  have e : (w / 67108864).toNat = 11 := by omega
  unfold decF at h; rw [e] at h
  simp only [formF] at h
  by_cases hv : w % 16384 = 0
  case neg => rw [if_neg hv] at h; cases h
  rw [if_pos hv] at h
  cases h
  obtain ⟨r, pc, vec, back, on, hdl⟩ := s
  obtain ⟨g1, g2, g3⟩ := xr (w := w)
  have hap : ApIs w (.lit 10) (x22 w) (x18 w) (x14 w) 0 := apis0 (apart_11 h0 h1 hk hv _ _ _ _ _ _ _ rfl rfl rfl rfl rfl rfl rfl)
  show RTailF _ _ _ _ _ (execF 11 (x22 w) (x18 w) (x14 w) 0 _ bd cyc)
  exact rtail_11 r pc vec back on hdl bd F w cyc (x22 w) (x18 w) (x14 w) 0 hs hz0 hbd g1 g2 g3 hap _ _ _ rfl rfl rfl
theorem rtl_12 {s : RegS} {bd : BoardS} {F : Option (Nat × Nat) → Own → World → Prop} {w : Int} (cyc : Int) (hs : RegOk s) (hz0 : s.r.set 0 0 = s.r) (hbd : BdOk bd) (h0 : 0 ≤ w) (h1 : w < 4294967296) (hk : w / 67108864 = 12) (i : Ins) (h : decF w = some i) : RTailF s bd F w cyc (execF i.op i.d i.a i.b i.imm s bd cyc) := by
  have e : (w / 67108864).toNat = 12 := by omega
  unfold decF at h; rw [e] at h
  simp only [formF] at h
  by_cases hv : w % 16384 = 0
  case neg => rw [if_neg hv] at h; cases h
  rw [if_pos hv] at h
  cases h
  obtain ⟨r, pc, vec, back, on, hdl⟩ := s
  obtain ⟨g1, g2, g3⟩ := xr (w := w)
  have hap : ApIs w (.lit 11) (x22 w) (x18 w) (x14 w) 0 := apis0 (apart_12 h0 h1 hk hv _ _ _ _ _ _ _ rfl rfl rfl rfl rfl rfl rfl)
  show RTailF _ _ _ _ _ (execF 12 (x22 w) (x18 w) (x14 w) 0 _ bd cyc)
  exact rtail_12 r pc vec back on hdl bd F w cyc (x22 w) (x18 w) (x14 w) 0 hs hz0 hbd g1 g2 g3 hap _ _ _ rfl rfl rfl
theorem rtl_13 {s : RegS} {bd : BoardS} {F : Option (Nat × Nat) → Own → World → Prop} {w : Int} (cyc : Int) (hs : RegOk s) (hz0 : s.r.set 0 0 = s.r) (hbd : BdOk bd) (h0 : 0 ≤ w) (h1 : w < 4294967296) (hk : w / 67108864 = 13) (i : Ins) (h : decF w = some i) : RTailF s bd F w cyc (execF i.op i.d i.a i.b i.imm s bd cyc) := by
  have e : (w / 67108864).toNat = 13 := by omega
  unfold decF at h; rw [e] at h
  simp only [formF] at h
  by_cases hv : w % 16384 = 0
  case neg => rw [if_neg hv] at h; cases h
  rw [if_pos hv] at h
  cases h
  obtain ⟨r, pc, vec, back, on, hdl⟩ := s
  obtain ⟨g1, g2, g3⟩ := xr (w := w)
  have hap : ApIs w (.lit 12) (x22 w) (x18 w) (x14 w) 0 := apis0 (apart_13 h0 h1 hk hv _ _ _ _ _ _ _ rfl rfl rfl rfl rfl rfl rfl)
  show RTailF _ _ _ _ _ (execF 13 (x22 w) (x18 w) (x14 w) 0 _ bd cyc)
  exact rtail_13 r pc vec back on hdl bd F w cyc (x22 w) (x18 w) (x14 w) 0 hs hz0 hbd g1 g2 g3 hap _ _ _ rfl rfl rfl
theorem rtl_14 {s : RegS} {bd : BoardS} {F : Option (Nat × Nat) → Own → World → Prop} {w : Int} (cyc : Int) (hs : RegOk s) (hz0 : s.r.set 0 0 = s.r) (hbd : BdOk bd) (h0 : 0 ≤ w) (h1 : w < 4294967296) (hk : w / 67108864 = 14) (i : Ins) (h : decF w = some i) : RTailF s bd F w cyc (execF i.op i.d i.a i.b i.imm s bd cyc) := by
  have e : (w / 67108864).toNat = 14 := by omega
  unfold decF at h; rw [e] at h
  simp only [formF] at h
  cases h
  obtain ⟨r, pc, vec, back, on, hdl⟩ := s
  obtain ⟨g1, g2, g3⟩ := xr (w := w)
  have hap : ApIs w (.lit 13) (x22 w) (x18 w) (x14 w) (s18 w) := apart_14 h0 h1 hk _ rfl _ _ _ _ _ _ _ rfl rfl rfl rfl rfl rfl rfl
  show RTailF _ _ _ _ _ (execF 14 (x22 w) (x18 w) 0 (s18 w) _ bd cyc)
  exact rtail_14 r pc vec back on hdl bd F w cyc (x22 w) (x18 w) (x14 w) (s18 w) hs hz0 hbd g1 g2 g3 hap _ _ _ rfl rfl rfl
theorem rtl_15 {s : RegS} {bd : BoardS} {F : Option (Nat × Nat) → Own → World → Prop} {w : Int} (cyc : Int) (hs : RegOk s) (hz0 : s.r.set 0 0 = s.r) (hbd : BdOk bd) (h0 : 0 ≤ w) (h1 : w < 4294967296) (hk : w / 67108864 = 15) (i : Ins) (h : decF w = some i) : RTailF s bd F w cyc (execF i.op i.d i.a i.b i.imm s bd cyc) := by
  have e : (w / 67108864).toNat = 15 := by omega
  unfold decF at h; rw [e] at h
  simp only [formF] at h
  cases h
  obtain ⟨r, pc, vec, back, on, hdl⟩ := s
  obtain ⟨g1, g2, g3⟩ := xr (w := w)
  have hap : ApIs w (.lit 14) (x22 w) (x18 w) (x14 w) (w % 262144) := apart_15 h0 h1 hk _ _ _ _ _ _ _ rfl rfl rfl rfl rfl rfl rfl
  show RTailF _ _ _ _ _ (execF 15 (x22 w) (x18 w) 0 (w % 262144) _ bd cyc)
  exact rtail_15 r pc vec back on hdl bd F w cyc (x22 w) (x18 w) (x14 w) (w % 262144) hs hz0 hbd g1 g2 g3 hap _ _ _ rfl rfl rfl
theorem rtl_16 {s : RegS} {bd : BoardS} {F : Option (Nat × Nat) → Own → World → Prop} {w : Int} (cyc : Int) (hs : RegOk s) (hz0 : s.r.set 0 0 = s.r) (hbd : BdOk bd) (h0 : 0 ≤ w) (h1 : w < 4294967296) (hk : w / 67108864 = 16) (i : Ins) (h : decF w = some i) : RTailF s bd F w cyc (execF i.op i.d i.a i.b i.imm s bd cyc) := by
  have e : (w / 67108864).toNat = 16 := by omega
  unfold decF at h; rw [e] at h
  simp only [formF] at h
  cases h
  obtain ⟨r, pc, vec, back, on, hdl⟩ := s
  obtain ⟨g1, g2, g3⟩ := xr (w := w)
  have hap : ApIs w (.lit 15) (x22 w) (x18 w) (x14 w) (w % 262144) := apart_16 h0 h1 hk _ _ _ _ _ _ _ rfl rfl rfl rfl rfl rfl rfl
  show RTailF _ _ _ _ _ (execF 16 (x22 w) (x18 w) 0 (w % 262144) _ bd cyc)
  exact rtail_16 r pc vec back on hdl bd F w cyc (x22 w) (x18 w) (x14 w) (w % 262144) hs hz0 hbd g1 g2 g3 hap _ _ _ rfl rfl rfl
theorem rtl_17 {s : RegS} {bd : BoardS} {F : Option (Nat × Nat) → Own → World → Prop} {w : Int} (cyc : Int) (hs : RegOk s) (hz0 : s.r.set 0 0 = s.r) (hbd : BdOk bd) (h0 : 0 ≤ w) (h1 : w < 4294967296) (hk : w / 67108864 = 17) (i : Ins) (h : decF w = some i) : RTailF s bd F w cyc (execF i.op i.d i.a i.b i.imm s bd cyc) := by
  have e : (w / 67108864).toNat = 17 := by omega
  unfold decF at h; rw [e] at h
  simp only [formF] at h
  cases h
  obtain ⟨r, pc, vec, back, on, hdl⟩ := s
  obtain ⟨g1, g2, g3⟩ := xr (w := w)
  have hap : ApIs w (.lit 16) (x22 w) (x18 w) (x14 w) (w % 262144) := apart_17 h0 h1 hk _ _ _ _ _ _ _ rfl rfl rfl rfl rfl rfl rfl
  show RTailF _ _ _ _ _ (execF 17 (x22 w) (x18 w) 0 (w % 262144) _ bd cyc)
  exact rtail_17 r pc vec back on hdl bd F w cyc (x22 w) (x18 w) (x14 w) (w % 262144) hs hz0 hbd g1 g2 g3 hap _ _ _ rfl rfl rfl
theorem rtl_18 {s : RegS} {bd : BoardS} {F : Option (Nat × Nat) → Own → World → Prop} {w : Int} (cyc : Int) (hs : RegOk s) (hz0 : s.r.set 0 0 = s.r) (hbd : BdOk bd) (h0 : 0 ≤ w) (h1 : w < 4294967296) (hk : w / 67108864 = 18) (i : Ins) (h : decF w = some i) : RTailF s bd F w cyc (execF i.op i.d i.a i.b i.imm s bd cyc) := by
  have e : (w / 67108864).toNat = 18 := by omega
  unfold decF at h; rw [e] at h
  simp only [formF] at h
  by_cases hv : w % 262144 ≤ 31
  case neg => rw [if_neg hv] at h; cases h
  rw [if_pos hv] at h
  cases h
  obtain ⟨r, pc, vec, back, on, hdl⟩ := s
  obtain ⟨g1, g2, g3⟩ := xr (w := w)
  have hap : ApIs w (.lit 17) (x22 w) (x18 w) (x14 w) (w % 262144) := apart_18 h0 h1 hk hv _ _ _ _ _ _ _ rfl rfl rfl rfl rfl rfl rfl
  show RTailF _ _ _ _ _ (execF 18 (x22 w) (x18 w) 0 (w % 262144) _ bd cyc)
  exact rtail_18 r pc vec back on hdl bd F w cyc (x22 w) (x18 w) (x14 w) (w % 262144) hs hz0 hbd g1 g2 g3 hap _ _ _ rfl rfl rfl
theorem rtl_19 {s : RegS} {bd : BoardS} {F : Option (Nat × Nat) → Own → World → Prop} {w : Int} (cyc : Int) (hs : RegOk s) (hz0 : s.r.set 0 0 = s.r) (hbd : BdOk bd) (h0 : 0 ≤ w) (h1 : w < 4294967296) (hk : w / 67108864 = 19) (i : Ins) (h : decF w = some i) : RTailF s bd F w cyc (execF i.op i.d i.a i.b i.imm s bd cyc) := by
  have e : (w / 67108864).toNat = 19 := by omega
  unfold decF at h; rw [e] at h
  simp only [formF] at h
  by_cases hv : w % 262144 ≤ 31
  case neg => rw [if_neg hv] at h; cases h
  rw [if_pos hv] at h
  cases h
  obtain ⟨r, pc, vec, back, on, hdl⟩ := s
  obtain ⟨g1, g2, g3⟩ := xr (w := w)
  have hap : ApIs w (.lit 18) (x22 w) (x18 w) (x14 w) (w % 262144) := apart_19 h0 h1 hk hv _ _ _ _ _ _ _ rfl rfl rfl rfl rfl rfl rfl
  show RTailF _ _ _ _ _ (execF 19 (x22 w) (x18 w) 0 (w % 262144) _ bd cyc)
  exact rtail_19 r pc vec back on hdl bd F w cyc (x22 w) (x18 w) (x14 w) (w % 262144) hs hz0 hbd g1 g2 g3 hap _ _ _ rfl rfl rfl
theorem rtl_20 {s : RegS} {bd : BoardS} {F : Option (Nat × Nat) → Own → World → Prop} {w : Int} (cyc : Int) (hs : RegOk s) (hz0 : s.r.set 0 0 = s.r) (hbd : BdOk bd) (h0 : 0 ≤ w) (h1 : w < 4294967296) (hk : w / 67108864 = 20) (i : Ins) (h : decF w = some i) : RTailF s bd F w cyc (execF i.op i.d i.a i.b i.imm s bd cyc) := by
  have e : (w / 67108864).toNat = 20 := by omega
  unfold decF at h; rw [e] at h
  simp only [formF] at h
  by_cases hv : w % 262144 ≤ 31
  case neg => rw [if_neg hv] at h; cases h
  rw [if_pos hv] at h
  cases h
  obtain ⟨r, pc, vec, back, on, hdl⟩ := s
  obtain ⟨g1, g2, g3⟩ := xr (w := w)
  have hap : ApIs w (.lit 19) (x22 w) (x18 w) (x14 w) (w % 262144) := apart_20 h0 h1 hk hv _ _ _ _ _ _ _ rfl rfl rfl rfl rfl rfl rfl
  show RTailF _ _ _ _ _ (execF 20 (x22 w) (x18 w) 0 (w % 262144) _ bd cyc)
  exact rtail_20 r pc vec back on hdl bd F w cyc (x22 w) (x18 w) (x14 w) (w % 262144) hs hz0 hbd g1 g2 g3 hap _ _ _ rfl rfl rfl
theorem rtl_21 {s : RegS} {bd : BoardS} {F : Option (Nat × Nat) → Own → World → Prop} {w : Int} (cyc : Int) (hs : RegOk s) (hz0 : s.r.set 0 0 = s.r) (hbd : BdOk bd) (h0 : 0 ≤ w) (h1 : w < 4294967296) (hk : w / 67108864 = 21) (i : Ins) (h : decF w = some i) : RTailF s bd F w cyc (execF i.op i.d i.a i.b i.imm s bd cyc) := by
  have e : (w / 67108864).toNat = 21 := by omega
  unfold decF at h; rw [e] at h
  simp only [formF] at h
  cases h
  obtain ⟨r, pc, vec, back, on, hdl⟩ := s
  obtain ⟨g1, g2, g3⟩ := xr (w := w)
  have hap : ApIs w (.lit 20) (x22 w) (x18 w) (x14 w) (s18 w) := apart_21 h0 h1 hk _ rfl _ _ _ _ _ _ _ rfl rfl rfl rfl rfl rfl rfl
  show RTailF _ _ _ _ _ (execF 21 (x22 w) (x18 w) 0 (s18 w) _ bd cyc)
  exact rtail_21 r pc vec back on hdl bd F w cyc (x22 w) (x18 w) (x14 w) (s18 w) hs hz0 hbd g1 g2 g3 hap _ _ _ rfl rfl rfl
theorem rtl_22 {s : RegS} {bd : BoardS} {F : Option (Nat × Nat) → Own → World → Prop} {w : Int} (cyc : Int) (hs : RegOk s) (hz0 : s.r.set 0 0 = s.r) (hbd : BdOk bd) (h0 : 0 ≤ w) (h1 : w < 4294967296) (hk : w / 67108864 = 22) (i : Ins) (h : decF w = some i) : RTailF s bd F w cyc (execF i.op i.d i.a i.b i.imm s bd cyc) := by
  have e : (w / 67108864).toNat = 22 := by omega
  unfold decF at h; rw [e] at h
  simp only [formF] at h
  cases h
  obtain ⟨r, pc, vec, back, on, hdl⟩ := s
  obtain ⟨g1, g2, g3⟩ := xr (w := w)
  have hap : ApIs w (.lit 21) (x22 w) (x18 w) (x14 w) (s18 w) := apart_22 h0 h1 hk _ rfl _ _ _ _ _ _ _ rfl rfl rfl rfl rfl rfl rfl
  show RTailF _ _ _ _ _ (execF 22 (x22 w) (x18 w) 0 (s18 w) _ bd cyc)
  exact rtail_22 r pc vec back on hdl bd F w cyc (x22 w) (x18 w) (x14 w) (s18 w) hs hz0 hbd g1 g2 g3 hap _ _ _ rfl rfl rfl
theorem rtl_23 {s : RegS} {bd : BoardS} {F : Option (Nat × Nat) → Own → World → Prop} {w : Int} (cyc : Int) (hs : RegOk s) (hz0 : s.r.set 0 0 = s.r) (hbd : BdOk bd) (h0 : 0 ≤ w) (h1 : w < 4294967296) (hk : w / 67108864 = 23) (i : Ins) (h : decF w = some i) : RTailF s bd F w cyc (execF i.op i.d i.a i.b i.imm s bd cyc) := by
  have e : (w / 67108864).toNat = 23 := by omega
  unfold decF at h; rw [e] at h
  simp only [formF] at h
  by_cases hv : w % 4194304 < 262144
  case neg => rw [if_neg hv] at h; cases h
  rw [if_pos hv] at h
  cases h
  obtain ⟨r, pc, vec, back, on, hdl⟩ := s
  obtain ⟨g1, g2, g3⟩ := xr (w := w)
  have hap : ApIs w (.lit 22) (x22 w) (x18 w) (x14 w) (w % 4194304) := apart_23 h0 h1 hk hv _ _ _ _ _ _ _ rfl rfl rfl rfl rfl rfl rfl
  show RTailF _ _ _ _ _ (execF 23 (x22 w) 0 0 (w % 4194304) _ bd cyc)
  exact rtail_23 r pc vec back on hdl bd F w cyc (x22 w) (x18 w) (x14 w) (w % 4194304) hs hz0 hbd g1 g2 g3 hap _ _ _ rfl rfl rfl
theorem rtl_24 {s : RegS} {bd : BoardS} {F : Option (Nat × Nat) → Own → World → Prop} {w : Int} (cyc : Int) (hs : RegOk s) (hz0 : s.r.set 0 0 = s.r) (hbd : BdOk bd) (h0 : 0 ≤ w) (h1 : w < 4294967296) (hk : w / 67108864 = 24) (i : Ins) (h : decF w = some i) : RTailF s bd F w cyc (execF i.op i.d i.a i.b i.imm s bd cyc) := by
  have e : (w / 67108864).toNat = 24 := by omega
  unfold decF at h; rw [e] at h
  simp only [formF] at h
  cases h
  obtain ⟨r, pc, vec, back, on, hdl⟩ := s
  obtain ⟨g1, g2, g3⟩ := xr (w := w)
  have hap : ApIs w (.lit 23) (x22 w) (x18 w) (x14 w) (s18 w) := apart_24 h0 h1 hk _ rfl _ _ _ _ _ _ _ rfl rfl rfl rfl rfl rfl rfl
  show RTailF _ _ _ _ _ (execF 24 (x22 w) (x18 w) 0 (s18 w) _ bd cyc)
  by_cases hf : pick1 bd.faults bd.nf = 0
  · rw [show execF 24 (x22 w) (x18 w) 0 (s18 w) ⟨r, pc, vec, back, on, hdl⟩ bd cyc = (if pick1 bd.faults bd.nf = 0 then _ else _) from rfl, if_pos hf]
    exact rtail_24 r pc vec back on hdl bd F w cyc (x22 w) (x18 w) (x14 w) (s18 w) hs hz0 hbd g1 g2 g3 hf hap _ _ _ _ _ _ _ _ _ rfl rfl rfl rfl rfl rfl rfl rfl rfl
  · rw [show execF 24 (x22 w) (x18 w) 0 (s18 w) ⟨r, pc, vec, back, on, hdl⟩ bd cyc = (if pick1 bd.faults bd.nf = 0 then _ else _) from rfl, if_neg hf]
    exact rtail_24f r pc vec back on hdl bd F w cyc (x22 w) (x18 w) (x14 w) (s18 w) hs hz0 hbd g1 g2 g3 hf hap _ _ _ _ _ _ _ rfl rfl rfl rfl rfl rfl rfl
theorem rtl_25 {s : RegS} {bd : BoardS} {F : Option (Nat × Nat) → Own → World → Prop} {w : Int} (cyc : Int) (hs : RegOk s) (hz0 : s.r.set 0 0 = s.r) (hbd : BdOk bd) (h0 : 0 ≤ w) (h1 : w < 4294967296) (hk : w / 67108864 = 25) (i : Ins) (h : decF w = some i) : RTailF s bd F w cyc (execF i.op i.d i.a i.b i.imm s bd cyc) := by
  have e : (w / 67108864).toNat = 25 := by omega
  unfold decF at h; rw [e] at h
  simp only [formF] at h
  cases h
  obtain ⟨r, pc, vec, back, on, hdl⟩ := s
  obtain ⟨g1, g2, g3⟩ := xr (w := w)
  have hap : ApIs w (.lit 24) (x22 w) (x18 w) (x14 w) (s18 w) := apart_25 h0 h1 hk _ rfl _ _ _ _ _ _ _ rfl rfl rfl rfl rfl rfl rfl
  show RTailF _ _ _ _ _ (execF 25 (x22 w) (x18 w) 0 (s18 w) _ bd cyc)
  by_cases hf : pick1 bd.faults bd.nf = 0
  · rw [show execF 25 (x22 w) (x18 w) 0 (s18 w) ⟨r, pc, vec, back, on, hdl⟩ bd cyc = (if pick1 bd.faults bd.nf = 0 then _ else _) from rfl, if_pos hf]
    exact rtail_25 r pc vec back on hdl bd F w cyc (x22 w) (x18 w) (x14 w) (s18 w) hs hz0 hbd g1 g2 g3 hf hap _ _ _ _ _ _ _ _ _ rfl rfl rfl rfl rfl rfl rfl rfl rfl
  · rw [show execF 25 (x22 w) (x18 w) 0 (s18 w) ⟨r, pc, vec, back, on, hdl⟩ bd cyc = (if pick1 bd.faults bd.nf = 0 then _ else _) from rfl, if_neg hf]
    exact rtail_25f r pc vec back on hdl bd F w cyc (x22 w) (x18 w) (x14 w) (s18 w) hs hz0 hbd g1 g2 g3 hf hap _ _ _ _ _ _ _ rfl rfl rfl rfl rfl rfl rfl
theorem rtl_26 {s : RegS} {bd : BoardS} {F : Option (Nat × Nat) → Own → World → Prop} {w : Int} (cyc : Int) (hs : RegOk s) (hz0 : s.r.set 0 0 = s.r) (hbd : BdOk bd) (h0 : 0 ≤ w) (h1 : w < 4294967296) (hk : w / 67108864 = 26) (i : Ins) (h : decF w = some i) : RTailF s bd F w cyc (execF i.op i.d i.a i.b i.imm s bd cyc) := by
  have e : (w / 67108864).toNat = 26 := by omega
  unfold decF at h; rw [e] at h
  simp only [formF] at h
  cases h
  obtain ⟨r, pc, vec, back, on, hdl⟩ := s
  obtain ⟨g1, g2, g3⟩ := xr (w := w)
  have hap : ApIs w (.lit 25) (x22 w) (x18 w) (x14 w) (s18 w) := apart_26 h0 h1 hk _ rfl _ _ _ _ _ _ _ rfl rfl rfl rfl rfl rfl rfl
  show RTailF _ _ _ _ _ (execF 26 (x22 w) (x18 w) 0 (s18 w) _ bd cyc)
  by_cases hf : pick1 bd.faults bd.nf = 0
  · rw [show execF 26 (x22 w) (x18 w) 0 (s18 w) ⟨r, pc, vec, back, on, hdl⟩ bd cyc = (if pick1 bd.faults bd.nf = 0 then _ else _) from rfl, if_pos hf]
    exact rtail_26 r pc vec back on hdl bd F w cyc (x22 w) (x18 w) (x14 w) (s18 w) hs hz0 hbd g1 g2 g3 hf hap _ _ _ _ _ _ _ _ _ rfl rfl rfl rfl rfl rfl rfl rfl rfl
  · rw [show execF 26 (x22 w) (x18 w) 0 (s18 w) ⟨r, pc, vec, back, on, hdl⟩ bd cyc = (if pick1 bd.faults bd.nf = 0 then _ else _) from rfl, if_neg hf]
    exact rtail_26f r pc vec back on hdl bd F w cyc (x22 w) (x18 w) (x14 w) (s18 w) hs hz0 hbd g1 g2 g3 hf hap _ _ _ _ _ _ _ rfl rfl rfl rfl rfl rfl rfl
theorem rtl_27 {s : RegS} {bd : BoardS} {F : Option (Nat × Nat) → Own → World → Prop} {w : Int} (cyc : Int) (hs : RegOk s) (hz0 : s.r.set 0 0 = s.r) (hbd : BdOk bd) (h0 : 0 ≤ w) (h1 : w < 4294967296) (hk : w / 67108864 = 27) (i : Ins) (h : decF w = some i) : RTailF s bd F w cyc (execF i.op i.d i.a i.b i.imm s bd cyc) := by
  have e : (w / 67108864).toNat = 27 := by omega
  unfold decF at h; rw [e] at h
  simp only [formF] at h
  cases h
  obtain ⟨r, pc, vec, back, on, hdl⟩ := s
  obtain ⟨g1, g2, g3⟩ := xr (w := w)
  have hap : ApIs w (.lit 26) (x22 w) (x18 w) (x14 w) (s18 w) := apart_27 h0 h1 hk _ rfl _ _ _ _ _ _ _ rfl rfl rfl rfl rfl rfl rfl
  show RTailF _ _ _ _ _ (execF 27 (x22 w) (x18 w) 0 (s18 w) _ bd cyc)
  by_cases hf : pick1 bd.faults bd.nf = 0
  · rw [show execF 27 (x22 w) (x18 w) 0 (s18 w) ⟨r, pc, vec, back, on, hdl⟩ bd cyc = (if pick1 bd.faults bd.nf = 0 then _ else _) from rfl, if_pos hf]
    exact rtail_27 r pc vec back on hdl bd F w cyc (x22 w) (x18 w) (x14 w) (s18 w) hs hz0 hbd g1 g2 g3 hf hap _ _ _ _ _ _ _ _ _ rfl rfl rfl rfl rfl rfl rfl rfl rfl
  · rw [show execF 27 (x22 w) (x18 w) 0 (s18 w) ⟨r, pc, vec, back, on, hdl⟩ bd cyc = (if pick1 bd.faults bd.nf = 0 then _ else _) from rfl, if_neg hf]
    exact rtail_27f r pc vec back on hdl bd F w cyc (x22 w) (x18 w) (x14 w) (s18 w) hs hz0 hbd g1 g2 g3 hf hap _ _ _ _ _ _ _ rfl rfl rfl rfl rfl rfl rfl
theorem rtl_28 {s : RegS} {bd : BoardS} {F : Option (Nat × Nat) → Own → World → Prop} {w : Int} (cyc : Int) (hs : RegOk s) (hz0 : s.r.set 0 0 = s.r) (hbd : BdOk bd) (h0 : 0 ≤ w) (h1 : w < 4294967296) (hk : w / 67108864 = 28) (i : Ins) (h : decF w = some i) : RTailF s bd F w cyc (execF i.op i.d i.a i.b i.imm s bd cyc) := by
  have e : (w / 67108864).toNat = 28 := by omega
  unfold decF at h; rw [e] at h
  simp only [formF] at h
  cases h
  obtain ⟨r, pc, vec, back, on, hdl⟩ := s
  obtain ⟨g1, g2, g3⟩ := xr (w := w)
  have hap : ApIs w (.lit 27) (x22 w) (x18 w) (x14 w) (s18 w) := apart_28 h0 h1 hk _ rfl _ _ _ _ _ _ _ rfl rfl rfl rfl rfl rfl rfl
  show RTailF _ _ _ _ _ (execF 28 (x22 w) (x18 w) 0 (s18 w) _ bd cyc)
  by_cases hf : pick1 bd.faults bd.nf = 0
  · rw [show execF 28 (x22 w) (x18 w) 0 (s18 w) ⟨r, pc, vec, back, on, hdl⟩ bd cyc = (if pick1 bd.faults bd.nf = 0 then _ else _) from rfl, if_pos hf]
    exact rtail_28 r pc vec back on hdl bd F w cyc (x22 w) (x18 w) (x14 w) (s18 w) hs hz0 hbd g1 g2 g3 hf hap _ _ _ _ _ _ _ _ _ rfl rfl rfl rfl rfl rfl rfl rfl rfl
  · rw [show execF 28 (x22 w) (x18 w) 0 (s18 w) ⟨r, pc, vec, back, on, hdl⟩ bd cyc = (if pick1 bd.faults bd.nf = 0 then _ else _) from rfl, if_neg hf]
    exact rtail_28f r pc vec back on hdl bd F w cyc (x22 w) (x18 w) (x14 w) (s18 w) hs hz0 hbd g1 g2 g3 hf hap _ _ _ _ _ _ _ rfl rfl rfl rfl rfl rfl rfl
theorem rtl_29 {s : RegS} {bd : BoardS} {F : Option (Nat × Nat) → Own → World → Prop} {w : Int} (cyc : Int) (hs : RegOk s) (hz0 : s.r.set 0 0 = s.r) (hbd : BdOk bd) (h0 : 0 ≤ w) (h1 : w < 4294967296) (hk : w / 67108864 = 29) (i : Ins) (h : decF w = some i) : RTailF s bd F w cyc (execF i.op i.d i.a i.b i.imm s bd cyc) := by
  have e : (w / 67108864).toNat = 29 := by omega
  unfold decF at h; rw [e] at h
  simp only [formF] at h
  cases h
  obtain ⟨r, pc, vec, back, on, hdl⟩ := s
  obtain ⟨g1, g2, g3⟩ := xr (w := w)
  have hap : ApIs w (.lit 28) (x22 w) (x18 w) (x14 w) (s18 w) := apart_29 h0 h1 hk _ rfl _ _ _ _ _ _ _ rfl rfl rfl rfl rfl rfl rfl
  show RTailF _ _ _ _ _ (execF 29 0 (x22 w) (x18 w) (s18 w) _ bd cyc)
  by_cases hf : pick1 bd.faults bd.nf = 0
  · rw [show execF 29 0 (x22 w) (x18 w) (s18 w) ⟨r, pc, vec, back, on, hdl⟩ bd cyc = (if pick1 bd.faults bd.nf = 0 then _ else _) from rfl, if_pos hf]
    exact rtail_29 r pc vec back on hdl bd F w cyc (x22 w) (x18 w) (x14 w) (s18 w) hs hz0 hbd g1 g2 g3 hf hap _ _ _ _ _ _ _ rfl rfl rfl rfl rfl rfl rfl
  · rw [show execF 29 0 (x22 w) (x18 w) (s18 w) ⟨r, pc, vec, back, on, hdl⟩ bd cyc = (if pick1 bd.faults bd.nf = 0 then _ else _) from rfl, if_neg hf]
    exact rtail_29f r pc vec back on hdl bd F w cyc (x22 w) (x18 w) (x14 w) (s18 w) hs hz0 hbd g1 g2 g3 hf hap _ _ _ _ _ _ rfl rfl rfl rfl rfl rfl
theorem rtl_30 {s : RegS} {bd : BoardS} {F : Option (Nat × Nat) → Own → World → Prop} {w : Int} (cyc : Int) (hs : RegOk s) (hz0 : s.r.set 0 0 = s.r) (hbd : BdOk bd) (h0 : 0 ≤ w) (h1 : w < 4294967296) (hk : w / 67108864 = 30) (i : Ins) (h : decF w = some i) : RTailF s bd F w cyc (execF i.op i.d i.a i.b i.imm s bd cyc) := by
  have e : (w / 67108864).toNat = 30 := by omega
  unfold decF at h; rw [e] at h
  simp only [formF] at h
  cases h
  obtain ⟨r, pc, vec, back, on, hdl⟩ := s
  obtain ⟨g1, g2, g3⟩ := xr (w := w)
  have hap : ApIs w (.lit 29) (x22 w) (x18 w) (x14 w) (s18 w) := apart_30 h0 h1 hk _ rfl _ _ _ _ _ _ _ rfl rfl rfl rfl rfl rfl rfl
  show RTailF _ _ _ _ _ (execF 30 0 (x22 w) (x18 w) (s18 w) _ bd cyc)
  by_cases hf : pick1 bd.faults bd.nf = 0
  · rw [show execF 30 0 (x22 w) (x18 w) (s18 w) ⟨r, pc, vec, back, on, hdl⟩ bd cyc = (if pick1 bd.faults bd.nf = 0 then _ else _) from rfl, if_pos hf]
    exact rtail_30 r pc vec back on hdl bd F w cyc (x22 w) (x18 w) (x14 w) (s18 w) hs hz0 hbd g1 g2 g3 hf hap _ _ _ _ _ _ _ rfl rfl rfl rfl rfl rfl rfl
  · rw [show execF 30 0 (x22 w) (x18 w) (s18 w) ⟨r, pc, vec, back, on, hdl⟩ bd cyc = (if pick1 bd.faults bd.nf = 0 then _ else _) from rfl, if_neg hf]
    exact rtail_30f r pc vec back on hdl bd F w cyc (x22 w) (x18 w) (x14 w) (s18 w) hs hz0 hbd g1 g2 g3 hf hap _ _ _ _ _ _ rfl rfl rfl rfl rfl rfl
theorem rtl_31 {s : RegS} {bd : BoardS} {F : Option (Nat × Nat) → Own → World → Prop} {w : Int} (cyc : Int) (hs : RegOk s) (hz0 : s.r.set 0 0 = s.r) (hbd : BdOk bd) (h0 : 0 ≤ w) (h1 : w < 4294967296) (hk : w / 67108864 = 31) (i : Ins) (h : decF w = some i) : RTailF s bd F w cyc (execF i.op i.d i.a i.b i.imm s bd cyc) := by
  have e : (w / 67108864).toNat = 31 := by omega
  unfold decF at h; rw [e] at h
  simp only [formF] at h
  cases h
  obtain ⟨r, pc, vec, back, on, hdl⟩ := s
  obtain ⟨g1, g2, g3⟩ := xr (w := w)
  have hap : ApIs w (.lit 30) (x22 w) (x18 w) (x14 w) (s18 w) := apart_31 h0 h1 hk _ rfl _ _ _ _ _ _ _ rfl rfl rfl rfl rfl rfl rfl
  show RTailF _ _ _ _ _ (execF 31 0 (x22 w) (x18 w) (s18 w) _ bd cyc)
  by_cases hf : pick1 bd.faults bd.nf = 0
  · rw [show execF 31 0 (x22 w) (x18 w) (s18 w) ⟨r, pc, vec, back, on, hdl⟩ bd cyc = (if pick1 bd.faults bd.nf = 0 then _ else _) from rfl, if_pos hf]
    exact rtail_31 r pc vec back on hdl bd F w cyc (x22 w) (x18 w) (x14 w) (s18 w) hs hz0 hbd g1 g2 g3 hf hap _ _ _ _ _ _ _ rfl rfl rfl rfl rfl rfl rfl
  · rw [show execF 31 0 (x22 w) (x18 w) (s18 w) ⟨r, pc, vec, back, on, hdl⟩ bd cyc = (if pick1 bd.faults bd.nf = 0 then _ else _) from rfl, if_neg hf]
    exact rtail_31f r pc vec back on hdl bd F w cyc (x22 w) (x18 w) (x14 w) (s18 w) hs hz0 hbd g1 g2 g3 hf hap _ _ _ _ _ _ rfl rfl rfl rfl rfl rfl
theorem rtl_32 {s : RegS} {bd : BoardS} {F : Option (Nat × Nat) → Own → World → Prop} {w : Int} (cyc : Int) (hs : RegOk s) (hz0 : s.r.set 0 0 = s.r) (hbd : BdOk bd) (h0 : 0 ≤ w) (h1 : w < 4294967296) (hk : w / 67108864 = 32) (i : Ins) (h : decF w = some i) : RTailF s bd F w cyc (execF i.op i.d i.a i.b i.imm s bd cyc) := by
  have e : (w / 67108864).toNat = 32 := by omega
  unfold decF at h; rw [e] at h
  simp only [formF] at h
  cases h
  obtain ⟨r, pc, vec, back, on, hdl⟩ := s
  obtain ⟨g1, g2, g3⟩ := xr (w := w)
  have hap : ApIs w (.lit 31) (x22 w) (x18 w) (x14 w) (s18 w) := apart_32 h0 h1 hk _ rfl _ _ _ _ _ _ _ rfl rfl rfl rfl rfl rfl rfl
  show RTailF _ _ _ _ _ (execF 32 0 (x22 w) (x18 w) (s18 w) _ bd cyc)
  exact rtail_32 r pc vec back on hdl bd F w cyc (x22 w) (x18 w) (x14 w) (s18 w) hs hz0 hbd g1 g2 g3 hap _ _ rfl rfl
theorem rtl_33 {s : RegS} {bd : BoardS} {F : Option (Nat × Nat) → Own → World → Prop} {w : Int} (cyc : Int) (hs : RegOk s) (hz0 : s.r.set 0 0 = s.r) (hbd : BdOk bd) (h0 : 0 ≤ w) (h1 : w < 4294967296) (hk : w / 67108864 = 33) (i : Ins) (h : decF w = some i) : RTailF s bd F w cyc (execF i.op i.d i.a i.b i.imm s bd cyc) := by
  have e : (w / 67108864).toNat = 33 := by omega
  unfold decF at h; rw [e] at h
  simp only [formF] at h
  cases h
  obtain ⟨r, pc, vec, back, on, hdl⟩ := s
  obtain ⟨g1, g2, g3⟩ := xr (w := w)
  have hap : ApIs w (.lit 32) (x22 w) (x18 w) (x14 w) (s18 w) := apart_33 h0 h1 hk _ rfl _ _ _ _ _ _ _ rfl rfl rfl rfl rfl rfl rfl
  show RTailF _ _ _ _ _ (execF 33 0 (x22 w) (x18 w) (s18 w) _ bd cyc)
  exact rtail_33 r pc vec back on hdl bd F w cyc (x22 w) (x18 w) (x14 w) (s18 w) hs hz0 hbd g1 g2 g3 hap _ _ rfl rfl
theorem rtl_34 {s : RegS} {bd : BoardS} {F : Option (Nat × Nat) → Own → World → Prop} {w : Int} (cyc : Int) (hs : RegOk s) (hz0 : s.r.set 0 0 = s.r) (hbd : BdOk bd) (h0 : 0 ≤ w) (h1 : w < 4294967296) (hk : w / 67108864 = 34) (i : Ins) (h : decF w = some i) : RTailF s bd F w cyc (execF i.op i.d i.a i.b i.imm s bd cyc) := by
  have e : (w / 67108864).toNat = 34 := by omega
  unfold decF at h; rw [e] at h
  simp only [formF] at h
  cases h
  obtain ⟨r, pc, vec, back, on, hdl⟩ := s
  obtain ⟨g1, g2, g3⟩ := xr (w := w)
  have hap : ApIs w (.lit 33) (x22 w) (x18 w) (x14 w) (s18 w) := apart_34 h0 h1 hk _ rfl _ _ _ _ _ _ _ rfl rfl rfl rfl rfl rfl rfl
  show RTailF _ _ _ _ _ (execF 34 0 (x22 w) (x18 w) (s18 w) _ bd cyc)
  exact rtail_34 r pc vec back on hdl bd F w cyc (x22 w) (x18 w) (x14 w) (s18 w) hs hz0 hbd g1 g2 g3 hap _ _ rfl rfl
theorem rtl_35 {s : RegS} {bd : BoardS} {F : Option (Nat × Nat) → Own → World → Prop} {w : Int} (cyc : Int) (hs : RegOk s) (hz0 : s.r.set 0 0 = s.r) (hbd : BdOk bd) (h0 : 0 ≤ w) (h1 : w < 4294967296) (hk : w / 67108864 = 35) (i : Ins) (h : decF w = some i) : RTailF s bd F w cyc (execF i.op i.d i.a i.b i.imm s bd cyc) := by
  have e : (w / 67108864).toNat = 35 := by omega
  unfold decF at h; rw [e] at h
  simp only [formF] at h
  cases h
  obtain ⟨r, pc, vec, back, on, hdl⟩ := s
  obtain ⟨g1, g2, g3⟩ := xr (w := w)
  have hap : ApIs w (.lit 34) (x22 w) (x18 w) (x14 w) (s18 w) := apart_35 h0 h1 hk _ rfl _ _ _ _ _ _ _ rfl rfl rfl rfl rfl rfl rfl
  show RTailF _ _ _ _ _ (execF 35 0 (x22 w) (x18 w) (s18 w) _ bd cyc)
  exact rtail_35 r pc vec back on hdl bd F w cyc (x22 w) (x18 w) (x14 w) (s18 w) hs hz0 hbd g1 g2 g3 hap _ _ rfl rfl
theorem rtl_36 {s : RegS} {bd : BoardS} {F : Option (Nat × Nat) → Own → World → Prop} {w : Int} (cyc : Int) (hs : RegOk s) (hz0 : s.r.set 0 0 = s.r) (hbd : BdOk bd) (h0 : 0 ≤ w) (h1 : w < 4294967296) (hk : w / 67108864 = 36) (i : Ins) (h : decF w = some i) : RTailF s bd F w cyc (execF i.op i.d i.a i.b i.imm s bd cyc) := by
  have e : (w / 67108864).toNat = 36 := by omega
  unfold decF at h; rw [e] at h
  simp only [formF] at h
  cases h
  obtain ⟨r, pc, vec, back, on, hdl⟩ := s
  obtain ⟨g1, g2, g3⟩ := xr (w := w)
  have hap : ApIs w (.lit 35) (x22 w) (x18 w) (x14 w) (s18 w) := apart_36 h0 h1 hk _ rfl _ _ _ _ _ _ _ rfl rfl rfl rfl rfl rfl rfl
  show RTailF _ _ _ _ _ (execF 36 0 (x22 w) (x18 w) (s18 w) _ bd cyc)
  exact rtail_36 r pc vec back on hdl bd F w cyc (x22 w) (x18 w) (x14 w) (s18 w) hs hz0 hbd g1 g2 g3 hap _ _ rfl rfl
theorem rtl_37 {s : RegS} {bd : BoardS} {F : Option (Nat × Nat) → Own → World → Prop} {w : Int} (cyc : Int) (hs : RegOk s) (hz0 : s.r.set 0 0 = s.r) (hbd : BdOk bd) (h0 : 0 ≤ w) (h1 : w < 4294967296) (hk : w / 67108864 = 37) (i : Ins) (h : decF w = some i) : RTailF s bd F w cyc (execF i.op i.d i.a i.b i.imm s bd cyc) := by
  have e : (w / 67108864).toNat = 37 := by omega
  unfold decF at h; rw [e] at h
  simp only [formF] at h
  cases h
  obtain ⟨r, pc, vec, back, on, hdl⟩ := s
  obtain ⟨g1, g2, g3⟩ := xr (w := w)
  have hap : ApIs w (.lit 36) (x22 w) (x18 w) (x14 w) (s18 w) := apart_37 h0 h1 hk _ rfl _ _ _ _ _ _ _ rfl rfl rfl rfl rfl rfl rfl
  show RTailF _ _ _ _ _ (execF 37 0 (x22 w) (x18 w) (s18 w) _ bd cyc)
  exact rtail_37 r pc vec back on hdl bd F w cyc (x22 w) (x18 w) (x14 w) (s18 w) hs hz0 hbd g1 g2 g3 hap _ _ rfl rfl
theorem rtl_38 {s : RegS} {bd : BoardS} {F : Option (Nat × Nat) → Own → World → Prop} {w : Int} (cyc : Int) (hs : RegOk s) (hz0 : s.r.set 0 0 = s.r) (hbd : BdOk bd) (h0 : 0 ≤ w) (h1 : w < 4294967296) (hk : w / 67108864 = 38) (i : Ins) (h : decF w = some i) : RTailF s bd F w cyc (execF i.op i.d i.a i.b i.imm s bd cyc) := by
  have e : (w / 67108864).toNat = 38 := by omega
  unfold decF at h; rw [e] at h
  simp only [formF] at h
  cases h
  obtain ⟨r, pc, vec, back, on, hdl⟩ := s
  obtain ⟨g1, g2, g3⟩ := xr (w := w)
  have hap : ApIs w (.lit 37) (x22 w) (x18 w) (x14 w) (s22 w) := apart_38 h0 h1 hk _ rfl _ _ _ _ _ _ _ rfl rfl rfl rfl rfl rfl rfl
  show RTailF _ _ _ _ _ (execF 38 (x22 w) 0 0 (s22 w) _ bd cyc)
  exact rtail_38 r pc vec back on hdl bd F w cyc (x22 w) (x18 w) (x14 w) (s22 w) hs hz0 hbd g1 g2 g3 hap _ _ _ rfl rfl rfl
theorem rtl_39 {s : RegS} {bd : BoardS} {F : Option (Nat × Nat) → Own → World → Prop} {w : Int} (cyc : Int) (hs : RegOk s) (hz0 : s.r.set 0 0 = s.r) (hbd : BdOk bd) (h0 : 0 ≤ w) (h1 : w < 4294967296) (hk : w / 67108864 = 39) (i : Ins) (h : decF w = some i) : RTailF s bd F w cyc (execF i.op i.d i.a i.b i.imm s bd cyc) := by
  have e : (w / 67108864).toNat = 39 := by omega
  unfold decF at h; rw [e] at h
  simp only [formF] at h
  cases h
  obtain ⟨r, pc, vec, back, on, hdl⟩ := s
  obtain ⟨g1, g2, g3⟩ := xr (w := w)
  have hap : ApIs w (.lit 38) (x22 w) (x18 w) (x14 w) (s18 w) := apart_39 h0 h1 hk _ rfl _ _ _ _ _ _ _ rfl rfl rfl rfl rfl rfl rfl
  show RTailF _ _ _ _ _ (execF 39 (x22 w) (x18 w) 0 (s18 w) _ bd cyc)
  exact rtail_39 r pc vec back on hdl bd F w cyc (x22 w) (x18 w) (x14 w) (s18 w) hs hz0 hbd g1 g2 g3 hap _ _ _ rfl rfl rfl
theorem rtl_40 {s : RegS} {bd : BoardS} {F : Option (Nat × Nat) → Own → World → Prop} {w : Int} (cyc : Int) (hs : RegOk s) (hz0 : s.r.set 0 0 = s.r) (hbd : BdOk bd) (h0 : 0 ≤ w) (h1 : w < 4294967296) (hk : w / 67108864 = 40) (i : Ins) (h : decF w = some i) : RTailF s bd F w cyc (execF i.op i.d i.a i.b i.imm s bd cyc) := by
  have e : (w / 67108864).toNat = 40 := by omega
  unfold decF at h; rw [e] at h
  simp only [formF] at h
  by_cases hv : w % 67108864 < 262144
  case neg => rw [if_neg hv] at h; cases h
  rw [if_pos hv] at h
  cases h
  obtain ⟨r, pc, vec, back, on, hdl⟩ := s
  obtain ⟨g1, g2, g3⟩ := xr (w := w)
  have hap : ApIs w (.lit 39) (x22 w) (x18 w) (x14 w) (w % 67108864) := apart_40 h0 h1 hk hv _ _ _ _ _ _ _ rfl rfl rfl rfl rfl rfl rfl
  show RTailF _ _ _ _ _ (execF 40 0 0 0 (w % 67108864) _ bd cyc)
  exact rtail_40 r pc vec back on hdl bd F w cyc (x22 w) (x18 w) (x14 w) (w % 67108864) hs hz0 hbd g1 g2 g3 (by unfold U32; omega) hap _ _ rfl rfl
theorem rtl_41 {s : RegS} {bd : BoardS} {F : Option (Nat × Nat) → Own → World → Prop} {w : Int} (cyc : Int) (hs : RegOk s) (hz0 : s.r.set 0 0 = s.r) (hbd : BdOk bd) (h0 : 0 ≤ w) (h1 : w < 4294967296) (hk : w / 67108864 = 41) (i : Ins) (h : decF w = some i) : RTailF s bd F w cyc (execF i.op i.d i.a i.b i.imm s bd cyc) := by
  have e : (w / 67108864).toNat = 41 := by omega
  unfold decF at h; rw [e] at h
  simp only [formF] at h
  by_cases hv : w % 4194304 = 0
  case neg => rw [if_neg hv] at h; cases h
  rw [if_pos hv] at h
  cases h
  obtain ⟨r, pc, vec, back, on, hdl⟩ := s
  obtain ⟨g1, g2, g3⟩ := xr (w := w)
  have hap : ApIs w (.lit 40) (x22 w) (x18 w) (x14 w) 0 := apis0 (apart_41 h0 h1 hk hv _ _ _ _ _ _ _ rfl rfl rfl rfl rfl rfl rfl)
  show RTailF _ _ _ _ _ (execF 41 (x22 w) 0 0 0 _ bd cyc)
  exact rtail_41 r pc vec back on hdl bd F w cyc (x22 w) (x18 w) (x14 w) 0 hs hz0 hbd g1 g2 g3 hap _ _ _ _ _ rfl rfl rfl rfl rfl
theorem rtl_42 {s : RegS} {bd : BoardS} {F : Option (Nat × Nat) → Own → World → Prop} {w : Int} (cyc : Int) (hs : RegOk s) (hz0 : s.r.set 0 0 = s.r) (hbd : BdOk bd) (h0 : 0 ≤ w) (h1 : w < 4294967296) (hk : w / 67108864 = 42) (i : Ins) (h : decF w = some i) : RTailF s bd F w cyc (execF i.op i.d i.a i.b i.imm s bd cyc) := by
  have e : (w / 67108864).toNat = 42 := by omega
  unfold decF at h; rw [e] at h
  simp only [formF] at h
  by_cases hv : w % 67108864 = 0
  case neg => rw [if_neg hv] at h; cases h
  rw [if_pos hv] at h
  cases h
  obtain ⟨r, pc, vec, back, on, hdl⟩ := s
  obtain ⟨g1, g2, g3⟩ := xr (w := w)
  have hap : ApIs w (.lit 41) (x22 w) (x18 w) (x14 w) 0 := apis0 (apart_42 h0 h1 hk hv _ _ _ _ _ _ _ rfl rfl rfl rfl rfl rfl rfl)
  show RTailF _ _ _ _ _ (execF 42 0 0 0 0 _ bd cyc)
  exact rtail_42 r pc vec back on hdl bd F w cyc (x22 w) (x18 w) (x14 w) 0 hs hz0 hbd g1 g2 g3 hap _ _ rfl rfl
theorem rtl_43 {s : RegS} {bd : BoardS} {F : Option (Nat × Nat) → Own → World → Prop} {w : Int} (cyc : Int) (hs : RegOk s) (hz0 : s.r.set 0 0 = s.r) (hbd : BdOk bd) (h0 : 0 ≤ w) (h1 : w < 4294967296) (hk : w / 67108864 = 43) (i : Ins) (h : decF w = some i) : RTailF s bd F w cyc (execF i.op i.d i.a i.b i.imm s bd cyc) := by
  have e : (w / 67108864).toNat = 43 := by omega
  unfold decF at h; rw [e] at h
  simp only [formF] at h
  by_cases hv : w % 67108864 = 0
  case neg => rw [if_neg hv] at h; cases h
  rw [if_pos hv] at h
  cases h
  obtain ⟨r, pc, vec, back, on, hdl⟩ := s
  obtain ⟨g1, g2, g3⟩ := xr (w := w)
  have hap : ApIs w (.lit 42) (x22 w) (x18 w) (x14 w) 0 := apis0 (apart_43 h0 h1 hk hv _ _ _ _ _ _ _ rfl rfl rfl rfl rfl rfl rfl)
  show RTailF _ _ _ _ _ (execF 43 0 0 0 0 _ bd cyc)
  exact rtail_43 r pc vec back on hdl bd F w cyc (x22 w) (x18 w) (x14 w) 0 hs hz0 hbd g1 g2 g3 hap _ _ rfl rfl
theorem rtl_44 {s : RegS} {bd : BoardS} {F : Option (Nat × Nat) → Own → World → Prop} {w : Int} (cyc : Int) (hs : RegOk s) (hz0 : s.r.set 0 0 = s.r) (hbd : BdOk bd) (h0 : 0 ≤ w) (h1 : w < 4294967296) (hk : w / 67108864 = 44) (i : Ins) (h : decF w = some i) : RTailF s bd F w cyc (execF i.op i.d i.a i.b i.imm s bd cyc) := by
  have e : (w / 67108864).toNat = 44 := by omega
  unfold decF at h; rw [e] at h
  simp only [formF] at h
  by_cases hv : w % 67108864 = 0
  case neg => rw [if_neg hv] at h; cases h
  rw [if_pos hv] at h
  cases h
  obtain ⟨r, pc, vec, back, on, hdl⟩ := s
  obtain ⟨g1, g2, g3⟩ := xr (w := w)
  have hap : ApIs w (.lit 43) (x22 w) (x18 w) (x14 w) 0 := apis0 (apart_44 h0 h1 hk hv _ _ _ _ _ _ _ rfl rfl rfl rfl rfl rfl rfl)
  show RTailF _ _ _ _ _ (execF 44 0 0 0 0 _ bd cyc)
  exact rtail_44 r pc vec back on hdl bd F w cyc (x22 w) (x18 w) (x14 w) 0 hs hz0 hbd g1 g2 g3 hap _ _ rfl rfl
theorem rtl_45 {s : RegS} {bd : BoardS} {F : Option (Nat × Nat) → Own → World → Prop} {w : Int} (cyc : Int) (hs : RegOk s) (hz0 : s.r.set 0 0 = s.r) (hbd : BdOk bd) (h0 : 0 ≤ w) (h1 : w < 4294967296) (hk : w / 67108864 = 45) (i : Ins) (h : decF w = some i) : RTailF s bd F w cyc (execF i.op i.d i.a i.b i.imm s bd cyc) := by
  have e : (w / 67108864).toNat = 45 := by omega
  unfold decF at h; rw [e] at h
  simp only [formF] at h
  by_cases hv : w % 67108864 = 0
  case neg => rw [if_neg hv] at h; cases h
  rw [if_pos hv] at h
  cases h
  obtain ⟨r, pc, vec, back, on, hdl⟩ := s
  obtain ⟨g1, g2, g3⟩ := xr (w := w)
  have hap : ApIs w (.lit 44) (x22 w) (x18 w) (x14 w) 0 := apis0 (apart_45 h0 h1 hk hv _ _ _ _ _ _ _ rfl rfl rfl rfl rfl rfl rfl)
  show RTailF _ _ _ _ _ (execF 45 0 0 0 0 _ bd cyc)
  cases hdl
  · exact rtail_45n r pc vec back on false bd F w cyc (x22 w) (x18 w) (x14 w) 0 hs hz0 hbd g1 g2 g3 rfl hap _ rfl
  · exact rtail_45 r pc vec back on true bd F w cyc (x22 w) (x18 w) (x14 w) 0 hs hz0 hbd g1 g2 g3 rfl hap _ rfl
theorem rtl_46 {s : RegS} {bd : BoardS} {F : Option (Nat × Nat) → Own → World → Prop} {w : Int} (cyc : Int) (hs : RegOk s) (hz0 : s.r.set 0 0 = s.r) (hbd : BdOk bd) (h0 : 0 ≤ w) (h1 : w < 4294967296) (hk : w / 67108864 = 46) (i : Ins) (h : decF w = some i) : RTailF s bd F w cyc (execF i.op i.d i.a i.b i.imm s bd cyc) := by
  have e : (w / 67108864).toNat = 46 := by omega
  unfold decF at h; rw [e] at h
  simp only [formF] at h
  by_cases hv : w % 4194304 = 0
  case neg => rw [if_neg hv] at h; cases h
  rw [if_pos hv] at h
  cases h
  obtain ⟨r, pc, vec, back, on, hdl⟩ := s
  obtain ⟨g1, g2, g3⟩ := xr (w := w)
  have hap : ApIs w (.lit 45) (x22 w) (x18 w) (x14 w) 0 := apis0 (apart_46 h0 h1 hk hv _ _ _ _ _ _ _ rfl rfl rfl rfl rfl rfl rfl)
  show RTailF _ _ _ _ _ (execF 46 0 (x22 w) 0 0 _ bd cyc)
  exact rtail_46 r pc vec back on hdl bd F w cyc (x22 w) (x18 w) (x14 w) 0 hs hz0 hbd g1 g2 g3 hap _ _ _ rfl rfl rfl
theorem rtl_47 {s : RegS} {bd : BoardS} {F : Option (Nat × Nat) → Own → World → Prop} {w : Int} (cyc : Int) (hs : RegOk s) (hz0 : s.r.set 0 0 = s.r) (hbd : BdOk bd) (h0 : 0 ≤ w) (h1 : w < 4294967296) (hk : w / 67108864 = 47) (i : Ins) (h : decF w = some i) : RTailF s bd F w cyc (execF i.op i.d i.a i.b i.imm s bd cyc) := by
  have e : (w / 67108864).toNat = 47 := by omega
  unfold decF at h; rw [e] at h
  simp only [formF] at h
  by_cases hv : w % 67108864 = 0
  case neg => rw [if_neg hv] at h; cases h
  rw [if_pos hv] at h
  cases h
  obtain ⟨r, pc, vec, back, on, hdl⟩ := s
  obtain ⟨g1, g2, g3⟩ := xr (w := w)
  have hap : ApIs w (.lit 46) (x22 w) (x18 w) (x14 w) 0 := apis0 (apart_47 h0 h1 hk hv _ _ _ _ _ _ _ rfl rfl rfl rfl rfl rfl rfl)
  show RTailF _ _ _ _ _ (execF 47 0 0 0 0 _ bd cyc)
  exact rtail_47 r pc vec back on hdl bd F w cyc (x22 w) (x18 w) (x14 w) 0 hs hz0 hbd g1 g2 g3 hap _ rfl
theorem rtl_48 {s : RegS} {bd : BoardS} {F : Option (Nat × Nat) → Own → World → Prop} {w : Int} (cyc : Int) (hs : RegOk s) (hz0 : s.r.set 0 0 = s.r) (hbd : BdOk bd) (h0 : 0 ≤ w) (h1 : w < 4294967296) (hk : w / 67108864 = 48) (i : Ins) (h : decF w = some i) : RTailF s bd F w cyc (execF i.op i.d i.a i.b i.imm s bd cyc) := by
  have e : (w / 67108864).toNat = 48 := by omega
  unfold decF at h; rw [e] at h
  simp only [formF] at h
  by_cases hv : w % 67108864 = 0
  case neg => rw [if_neg hv] at h; cases h
  rw [if_pos hv] at h
  cases h
  obtain ⟨r, pc, vec, back, on, hdl⟩ := s
  obtain ⟨g1, g2, g3⟩ := xr (w := w)
  have hap : ApIs w (.lit 47) (x22 w) (x18 w) (x14 w) 0 := apis0 (apart_48 h0 h1 hk hv _ _ _ _ _ _ _ rfl rfl rfl rfl rfl rfl rfl)
  show RTailF _ _ _ _ _ (execF 48 0 0 0 0 _ bd cyc)
  exact rtail_48 r pc vec back on hdl bd F w cyc (x22 w) (x18 w) (x14 w) 0 hs hz0 hbd g1 g2 g3 hap _ _ rfl rfl
end Go.Proofs.YtkljgpepogkgdaaDoor
namespace Go.Proofs.YtkljgpepogkgdaaDoor
open Go Go.Vex
set_option maxRecDepth 20000
set_option maxHeartbeats 4000000
theorem apart_none {w : Int} (h0 : 0 ≤ w) (h1 : w < 4294967296) (hk : w / 67108864 < 1 ∨ 48 < w / 67108864) (x22 x18 x14 l18 l22 : Int) (hx22 : w / 4194304 % 16 = x22) (hx18 : w / 262144 % 16 = x18) (hx14 : w / 16384 % 16 = x14) (hl18 : w % 262144 = l18) (hl22 : w % 4194304 = l22) : Spec1 kit 32 [.i .u32 (.ex w)] [] false (.agg [.i .i64 (.lit (-1)), .i .i64 (.lit 0), .i .i64 (.lit 0), .i .i64 (.lit 0), .i .i64 (.lit 0)]) [] [] := by
  obtain ⟨k, hkk⟩ : ∃ k, w / 67108864 = k := ⟨_, rfl⟩
  rw [hkk] at hk
  refine Spec1.mk2 rfl fun F => ?_
  refine into I32ok 6 ?_
  conv => cbv
  refine OkCall.by_spec (field_26_6 h0 h1 (v := k) (by omega)) [] (by decide) (by cbv) trivial ?_
  conv => cbv
  refine Obs.int (.ex (k - 1)) (by show k - 1 = subI .i64 k 1; rw [subI_eq, IntWalk.i64_in _ (by omega)]) ?_
  generalize ho : k - 1 = op
  conv => cbv
  refine OkCall.by_spec (field_22_4 h0 h1 hx22) [] (by decide) (by cbv) trivial ?_
  conv => cbv
  refine OkCall.by_spec (field_18_4 h0 h1 hx18) [] (by decide) (by cbv) trivial ?_
  conv => cbv
  refine OkCall.by_spec (field_14_4 h0 h1 hx14) [] (by decide) (by cbv) trivial ?_
  conv => cbv
  refine OkCall.by_spec (field_0_18 h0 h1 (v := l18) (by omega)) [] (by decide) (by cbv) trivial ?_
  conv => cbv
  refine OkCall.by_spec (field_0_22 h0 h1 (v := l22) (by omega)) [] (by decide) (by cbv) trivial ?_
  conv => cbv
  refine Br.mk (fun hc => ?_) (fun hc => ?_)
  · conv => cbv
    exact LeOut.two (LeOut.mk' [0] (by decide) rfl (by decide) (by cbv) (by cbv))
  · simp only [leafs, decide_eq_false_iff_not] at hc
    conv => cbv
    refine Br.yes (by simp only [leafs, decide_eq_true_eq]; omega) ?_
    conv => cbv
    exact LeOut.two (LeOut.mk' [0] (by decide) rfl (by decide) (by cbv) (by cbv))
theorem rtail_flt {s : RegS} {bd : BoardS} {F : Option (Nat × Nat) → Own → World → Prop} {w : Int} (cyc f : Int) (hs : RegOk s) (hf : f ≠ 0) (c' : Int) (hc' : c' = i64 (cyc + 1)) {op : S Int} {x y z n : Int} (hap : ApIs w op x y z n) : RTailOk s bd F w cyc (.ex f) (resFault c' f s.pc) s bd := by
  obtain ⟨r, pc, vec, back, on, hdl⟩ := s
  refine kcode I13ok 6 ⟨[], 0⟩ tail13_chk ?_
  conv => cbv
  refine OkCall.by_spec hap [] (by decide) (by cbv) trivial ?_
  conv => cbv
  refine Br.no (by simp only [leafs]; simpa using hf) ?_
  conv => cbv
  refine Br.yes (by simp only [leafs]; simpa using hf) ?_
  conv => cbv
  refine (LeOut.mk' [0, 1, 2] (by decide) rfl id ?_ ?_).two
  · conv => cbv
    exact ⟨by rw [hc']; show _ = addI .i64 cyc 1; rw [addI_eq]; rfl, trivial⟩
  · conv => cbv
    trivial
theorem rtail_bd {s : RegS} {bd : BoardS} {F : Option (Nat × Nat) → Own → World → Prop} {w : Int} (cyc : Int) (hs : RegOk s) (hap : ApIs w (.lit (-1)) 0 0 0 0) (c' : Int) (hc' : c' = i64 (cyc + 1)) : RTailOk s bd F w cyc (.lit 0) (resFault c' 6 s.pc) s bd := by
  obtain ⟨r, pc, vec, back, on, hdl⟩ := s
  refine kcode I13ok 6 ⟨[], 0⟩ tail13_chk ?_
  conv => cbv
  refine OkCall.by_spec hap [] (by decide) (by cbv) trivial ?_
  conv => cbv
  refine (LeOut.mk' [0, 1, 2] (by decide) rfl id ?_ ?_).two
  · conv => cbv
    exact ⟨by rw [hc']; show _ = addI .i64 cyc 1; rw [addI_eq]; rfl, trivial⟩
  · conv => cbv
    trivial
theorem apisb {w : Int} (h : Spec1 kit 32 [.i .u32 (.ex w)] [] false (.agg [.i .i64 (.lit (-1)), .i .i64 (.lit 0), .i .i64 (.lit 0), .i .i64 (.lit 0), .i .i64 (.lit 0)]) [] []) : ApIs w (.lit (-1)) 0 0 0 0 := by
  refine Spec1.val h ?_
  cbv
theorem apb_1 {w : Int} (h0 : 0 ≤ w) (h1 : w < 4294967296) (hk : w / 67108864 = 1) : (decF w = none → ApIs w (.lit (-1)) 0 0 0 0) ∧ ∃ op x y z n, ApIs w op x y z n := by
  have e : (w / 67108864).toNat = 1 := by omega
  unfold decF; rw [e]
  simp only [formF]
  by_cases hv : w % 16384 = 0
  · rw [if_pos hv]
    exact ⟨fun h => (by cases h), ⟨_, _, _, _, _, apis0 (apart_1 h0 h1 hk hv _ _ _ _ _ _ _ rfl rfl rfl rfl rfl rfl rfl)⟩⟩
  · have hb := apisb (apart_1_bad h0 h1 hk (by omega) _ _ _ _ _ _ _ rfl rfl rfl rfl rfl rfl rfl)
    exact ⟨fun _ => hb, _, _, _, _, _, hb⟩
theorem apb_2 {w : Int} (h0 : 0 ≤ w) (h1 : w < 4294967296) (hk : w / 67108864 = 2) : (decF w = none → ApIs w (.lit (-1)) 0 0 0 0) ∧ ∃ op x y z n, ApIs w op x y z n := by
  have e : (w / 67108864).toNat = 2 := by omega
  unfold decF; rw [e]
  simp only [formF]
  by_cases hv : w % 16384 = 0
  · rw [if_pos hv]
    exact ⟨fun h => (by cases h), ⟨_, _, _, _, _, apis0 (apart_2 h0 h1 hk hv _ _ _ _ _ _ _ rfl rfl rfl rfl rfl rfl rfl)⟩⟩
  · have hb := apisb (apart_2_bad h0 h1 hk (by omega) _ _ _ _ _ _ _ rfl rfl rfl rfl rfl rfl rfl)
    exact ⟨fun _ => hb, _, _, _, _, _, hb⟩
theorem apb_3 {w : Int} (h0 : 0 ≤ w) (h1 : w < 4294967296) (hk : w / 67108864 = 3) : (decF w = none → ApIs w (.lit (-1)) 0 0 0 0) ∧ ∃ op x y z n, ApIs w op x y z n := by
  have e : (w / 67108864).toNat = 3 := by omega
  unfold decF; rw [e]
  simp only [formF]
  by_cases hv : w % 16384 = 0
  · rw [if_pos hv]
    exact ⟨fun h => (by cases h), ⟨_, _, _, _, _, apis0 (apart_3 h0 h1 hk hv _ _ _ _ _ _ _ rfl rfl rfl rfl rfl rfl rfl)⟩⟩
  · have hb := apisb (apart_3_bad h0 h1 hk (by omega) _ _ _ _ _ _ _ rfl rfl rfl rfl rfl rfl rfl)
    exact ⟨fun _ => hb, _, _, _, _, _, hb⟩
theorem apb_4 {w : Int} (h0 : 0 ≤ w) (h1 : w < 4294967296) (hk : w / 67108864 = 4) : (decF w = none → ApIs w (.lit (-1)) 0 0 0 0) ∧ ∃ op x y z n, ApIs w op x y z n := by
  have e : (w / 67108864).toNat = 4 := by omega
  unfold decF; rw [e]
  simp only [formF]
  by_cases hv : w % 16384 = 0
  · rw [if_pos hv]
    exact ⟨fun h => (by cases h), ⟨_, _, _, _, _, apis0 (apart_4 h0 h1 hk hv _ _ _ _ _ _ _ rfl rfl rfl rfl rfl rfl rfl)⟩⟩
  · have hb := apisb (apart_4_bad h0 h1 hk (by omega) _ _ _ _ _ _ _ rfl rfl rfl rfl rfl rfl rfl)
    exact ⟨fun _ => hb, _, _, _, _, _, hb⟩
theorem apb_5 {w : Int} (h0 : 0 ≤ w) (h1 : w < 4294967296) (hk : w / 67108864 = 5) : (decF w = none → ApIs w (.lit (-1)) 0 0 0 0) ∧ ∃ op x y z n, ApIs w op x y z n := by
  have e : (w / 67108864).toNat = 5 := by omega
  unfold decF; rw [e]
  simp only [formF]
  by_cases hv : w % 16384 = 0
  · rw [if_pos hv]
    exact ⟨fun h => (by cases h), ⟨_, _, _, _, _, apis0 (apart_5 h0 h1 hk hv _ _ _ _ _ _ _ rfl rfl rfl rfl rfl rfl rfl)⟩⟩
  · have hb := apisb (apart_5_bad h0 h1 hk (by omega) _ _ _ _ _ _ _ rfl rfl rfl rfl rfl rfl rfl)
    exact ⟨fun _ => hb, _, _, _, _, _, hb⟩
theorem apb_6 {w : Int} (h0 : 0 ≤ w) (h1 : w < 4294967296) (hk : w / 67108864 = 6) : (decF w = none → ApIs w (.lit (-1)) 0 0 0 0) ∧ ∃ op x y z n, ApIs w op x y z n := by
  have e : (w / 67108864).toNat = 6 := by omega
  unfold decF; rw [e]
  simp only [formF]
  by_cases hv : w % 16384 = 0
  · rw [if_pos hv]
    exact ⟨fun h => (by cases h), ⟨_, _, _, _, _, apis0 (apart_6 h0 h1 hk hv _ _ _ _ _ _ _ rfl rfl rfl rfl rfl rfl rfl)⟩⟩
  · have hb := apisb (apart_6_bad h0 h1 hk (by omega) _ _ _ _ _ _ _ rfl rfl rfl rfl rfl rfl rfl)
    exact ⟨fun _ => hb, _, _, _, _, _, hb⟩
theorem apb_7 {w : Int} (h0 : 0 ≤ w) (h1 : w < 4294967296) (hk : w / 67108864 = 7) : (decF w = none → ApIs w (.lit (-1)) 0 0 0 0) ∧ ∃ op x y z n, ApIs w op x y z n := by
  have e : (w / 67108864).toNat = 7 := by omega
  unfold decF; rw [e]
  simp only [formF]
  by_cases hv : w % 16384 = 0
  · rw [if_pos hv]
    exact ⟨fun h => (by cases h), ⟨_, _, _, _, _, apis0 (apart_7 h0 h1 hk hv _ _ _ _ _ _ _ rfl rfl rfl rfl rfl rfl rfl)⟩⟩
  · have hb := apisb (apart_7_bad h0 h1 hk (by omega) _ _ _ _ _ _ _ rfl rfl rfl rfl rfl rfl rfl)
    exact ⟨fun _ => hb, _, _, _, _, _, hb⟩
theorem apb_8 {w : Int} (h0 : 0 ≤ w) (h1 : w < 4294967296) (hk : w / 67108864 = 8) : (decF w = none → ApIs w (.lit (-1)) 0 0 0 0) ∧ ∃ op x y z n, ApIs w op x y z n := by
  have e : (w / 67108864).toNat = 8 := by omega
  unfold decF; rw [e]
  simp only [formF]
  by_cases hv : w % 16384 = 0
  · rw [if_pos hv]
    exact ⟨fun h => (by cases h), ⟨_, _, _, _, _, apis0 (apart_8 h0 h1 hk hv _ _ _ _ _ _ _ rfl rfl rfl rfl rfl rfl rfl)⟩⟩
  · have hb := apisb (apart_8_bad h0 h1 hk (by omega) _ _ _ _ _ _ _ rfl rfl rfl rfl rfl rfl rfl)
    exact ⟨fun _ => hb, _, _, _, _, _, hb⟩
theorem apb_9 {w : Int} (h0 : 0 ≤ w) (h1 : w < 4294967296) (hk : w / 67108864 = 9) : (decF w = none → ApIs w (.lit (-1)) 0 0 0 0) ∧ ∃ op x y z n, ApIs w op x y z n := by
  have e : (w / 67108864).toNat = 9 := by omega
  unfold decF; rw [e]
  simp only [formF]
  by_cases hv : w % 16384 = 0
  · rw [if_pos hv]
    exact ⟨fun h => (by cases h), ⟨_, _, _, _, _, apis0 (apart_9 h0 h1 hk hv _ _ _ _ _ _ _ rfl rfl rfl rfl rfl rfl rfl)⟩⟩
  · have hb := apisb (apart_9_bad h0 h1 hk (by omega) _ _ _ _ _ _ _ rfl rfl rfl rfl rfl rfl rfl)
    exact ⟨fun _ => hb, _, _, _, _, _, hb⟩
theorem apb_10 {w : Int} (h0 : 0 ≤ w) (h1 : w < 4294967296) (hk : w / 67108864 = 10) : (decF w = none → ApIs w (.lit (-1)) 0 0 0 0) ∧ ∃ op x y z n, ApIs w op x y z n := by
  have e : (w / 67108864).toNat = 10 := by omega
  unfold decF; rw [e]
  simp only [formF]
  by_cases hv : w % 16384 = 0
  · rw [if_pos hv]
    exact ⟨fun h => (by cases h), ⟨_, _, _, _, _, apis0 (apart_10 h0 h1 hk hv _ _ _ _ _ _ _ rfl rfl rfl rfl rfl rfl rfl)⟩⟩
  · have hb := apisb (apart_10_bad h0 h1 hk (by omega) _ _ _ _ _ _ _ rfl rfl rfl rfl rfl rfl rfl)
    exact ⟨fun _ => hb, _, _, _, _, _, hb⟩
theorem apb_11 {w : Int} (h0 : 0 ≤ w) (h1 : w < 4294967296) (hk : w / 67108864 = 11) : (decF w = none → ApIs w (.lit (-1)) 0 0 0 0) ∧ ∃ op x y z n, ApIs w op x y z n := by
  have e : (w / 67108864).toNat = 11 := by omega
  unfold decF; rw [e]
  simp only [formF]
  by_cases hv : w % 16384 = 0
  · rw [if_pos hv]
    exact ⟨fun h => (by cases h), ⟨_, _, _, _, _, apis0 (apart_11 h0 h1 hk hv _ _ _ _ _ _ _ rfl rfl rfl rfl rfl rfl rfl)⟩⟩
  · have hb := apisb (apart_11_bad h0 h1 hk (by omega) _ _ _ _ _ _ _ rfl rfl rfl rfl rfl rfl rfl)
    exact ⟨fun _ => hb, _, _, _, _, _, hb⟩
theorem apb_12 {w : Int} (h0 : 0 ≤ w) (h1 : w < 4294967296) (hk : w / 67108864 = 12) : (decF w = none → ApIs w (.lit (-1)) 0 0 0 0) ∧ ∃ op x y z n, ApIs w op x y z n := by
  have e : (w / 67108864).toNat = 12 := by omega
  unfold decF; rw [e]
  simp only [formF]
  by_cases hv : w % 16384 = 0
  · rw [if_pos hv]
    exact ⟨fun h => (by cases h), ⟨_, _, _, _, _, apis0 (apart_12 h0 h1 hk hv _ _ _ _ _ _ _ rfl rfl rfl rfl rfl rfl rfl)⟩⟩
  · have hb := apisb (apart_12_bad h0 h1 hk (by omega) _ _ _ _ _ _ _ rfl rfl rfl rfl rfl rfl rfl)
    exact ⟨fun _ => hb, _, _, _, _, _, hb⟩
theorem apb_13 {w : Int} (h0 : 0 ≤ w) (h1 : w < 4294967296) (hk : w / 67108864 = 13) : (decF w = none → ApIs w (.lit (-1)) 0 0 0 0) ∧ ∃ op x y z n, ApIs w op x y z n := by
  have e : (w / 67108864).toNat = 13 := by omega
  unfold decF; rw [e]
  simp only [formF]
  by_cases hv : w % 16384 = 0
  · rw [if_pos hv]
    exact ⟨fun h => (by cases h), ⟨_, _, _, _, _, apis0 (apart_13 h0 h1 hk hv _ _ _ _ _ _ _ rfl rfl rfl rfl rfl rfl rfl)⟩⟩
  · have hb := apisb (apart_13_bad h0 h1 hk (by omega) _ _ _ _ _ _ _ rfl rfl rfl rfl rfl rfl rfl)
    exact ⟨fun _ => hb, _, _, _, _, _, hb⟩
theorem apb_14 {w : Int} (h0 : 0 ≤ w) (h1 : w < 4294967296) (hk : w / 67108864 = 14) : (decF w = none → ApIs w (.lit (-1)) 0 0 0 0) ∧ ∃ op x y z n, ApIs w op x y z n := by
  have e : (w / 67108864).toNat = 14 := by omega
  unfold decF; rw [e]
  simp only [formF]
  exact ⟨fun h => (by cases h), ⟨_, _, _, _, _, apart_14 h0 h1 hk _ rfl _ _ _ _ _ _ _ rfl rfl rfl rfl rfl rfl rfl⟩⟩
theorem apb_15 {w : Int} (h0 : 0 ≤ w) (h1 : w < 4294967296) (hk : w / 67108864 = 15) : (decF w = none → ApIs w (.lit (-1)) 0 0 0 0) ∧ ∃ op x y z n, ApIs w op x y z n := by
  have e : (w / 67108864).toNat = 15 := by omega
  unfold decF; rw [e]
  simp only [formF]
  exact ⟨fun h => (by cases h), ⟨_, _, _, _, _, apart_15 h0 h1 hk _ _ _ _ _ _ _ rfl rfl rfl rfl rfl rfl rfl⟩⟩
theorem apb_16 {w : Int} (h0 : 0 ≤ w) (h1 : w < 4294967296) (hk : w / 67108864 = 16) : (decF w = none → ApIs w (.lit (-1)) 0 0 0 0) ∧ ∃ op x y z n, ApIs w op x y z n := by
  have e : (w / 67108864).toNat = 16 := by omega
  unfold decF; rw [e]
  simp only [formF]
  exact ⟨fun h => (by cases h), ⟨_, _, _, _, _, apart_16 h0 h1 hk _ _ _ _ _ _ _ rfl rfl rfl rfl rfl rfl rfl⟩⟩
theorem apb_17 {w : Int} (h0 : 0 ≤ w) (h1 : w < 4294967296) (hk : w / 67108864 = 17) : (decF w = none → ApIs w (.lit (-1)) 0 0 0 0) ∧ ∃ op x y z n, ApIs w op x y z n := by
  have e : (w / 67108864).toNat = 17 := by omega
  unfold decF; rw [e]
  simp only [formF]
  exact ⟨fun h => (by cases h), ⟨_, _, _, _, _, apart_17 h0 h1 hk _ _ _ _ _ _ _ rfl rfl rfl rfl rfl rfl rfl⟩⟩
theorem apb_18 {w : Int} (h0 : 0 ≤ w) (h1 : w < 4294967296) (hk : w / 67108864 = 18) : (decF w = none → ApIs w (.lit (-1)) 0 0 0 0) ∧ ∃ op x y z n, ApIs w op x y z n := by
  have e : (w / 67108864).toNat = 18 := by omega
  unfold decF; rw [e]
  simp only [formF]
  by_cases hv : w % 262144 ≤ 31
  · rw [if_pos hv]
    exact ⟨fun h => (by cases h), ⟨_, _, _, _, _, apart_18 h0 h1 hk hv _ _ _ _ _ _ _ rfl rfl rfl rfl rfl rfl rfl⟩⟩
  · have hb := apisb (apart_18_bad h0 h1 hk (by omega) _ _ _ _ _ _ _ rfl rfl rfl rfl rfl rfl rfl)
    exact ⟨fun _ => hb, _, _, _, _, _, hb⟩
theorem apb_19 {w : Int} (h0 : 0 ≤ w) (h1 : w < 4294967296) (hk : w / 67108864 = 19) : (decF w = none → ApIs w (.lit (-1)) 0 0 0 0) ∧ ∃ op x y z n, ApIs w op x y z n := by
  have e : (w / 67108864).toNat = 19 := by omega
  unfold decF; rw [e]
  simp only [formF]
  by_cases hv : w % 262144 ≤ 31
  · rw [if_pos hv]
    exact ⟨fun h => (by cases h), ⟨_, _, _, _, _, apart_19 h0 h1 hk hv _ _ _ _ _ _ _ rfl rfl rfl rfl rfl rfl rfl⟩⟩
  · have hb := apisb (apart_19_bad h0 h1 hk (by omega) _ _ _ _ _ _ _ rfl rfl rfl rfl rfl rfl rfl)
    exact ⟨fun _ => hb, _, _, _, _, _, hb⟩
theorem apb_20 {w : Int} (h0 : 0 ≤ w) (h1 : w < 4294967296) (hk : w / 67108864 = 20) : (decF w = none → ApIs w (.lit (-1)) 0 0 0 0) ∧ ∃ op x y z n, ApIs w op x y z n := by
  have e : (w / 67108864).toNat = 20 := by omega
  unfold decF; rw [e]
  simp only [formF]
  by_cases hv : w % 262144 ≤ 31
  · rw [if_pos hv]
    exact ⟨fun h => (by cases h), ⟨_, _, _, _, _, apart_20 h0 h1 hk hv _ _ _ _ _ _ _ rfl rfl rfl rfl rfl rfl rfl⟩⟩
  · have hb := apisb (apart_20_bad h0 h1 hk (by omega) _ _ _ _ _ _ _ rfl rfl rfl rfl rfl rfl rfl)
    exact ⟨fun _ => hb, _, _, _, _, _, hb⟩
theorem apb_21 {w : Int} (h0 : 0 ≤ w) (h1 : w < 4294967296) (hk : w / 67108864 = 21) : (decF w = none → ApIs w (.lit (-1)) 0 0 0 0) ∧ ∃ op x y z n, ApIs w op x y z n := by
  have e : (w / 67108864).toNat = 21 := by omega
  unfold decF; rw [e]
  simp only [formF]
  exact ⟨fun h => (by cases h), ⟨_, _, _, _, _, apart_21 h0 h1 hk _ rfl _ _ _ _ _ _ _ rfl rfl rfl rfl rfl rfl rfl⟩⟩
theorem apb_22 {w : Int} (h0 : 0 ≤ w) (h1 : w < 4294967296) (hk : w / 67108864 = 22) : (decF w = none → ApIs w (.lit (-1)) 0 0 0 0) ∧ ∃ op x y z n, ApIs w op x y z n := by
  have e : (w / 67108864).toNat = 22 := by omega
  unfold decF; rw [e]
  simp only [formF]
  exact ⟨fun h => (by cases h), ⟨_, _, _, _, _, apart_22 h0 h1 hk _ rfl _ _ _ _ _ _ _ rfl rfl rfl rfl rfl rfl rfl⟩⟩
theorem apb_23 {w : Int} (h0 : 0 ≤ w) (h1 : w < 4294967296) (hk : w / 67108864 = 23) : (decF w = none → ApIs w (.lit (-1)) 0 0 0 0) ∧ ∃ op x y z n, ApIs w op x y z n := by
  have e : (w / 67108864).toNat = 23 := by omega
  unfold decF; rw [e]
  simp only [formF]
  by_cases hv : w % 4194304 < 262144
  · rw [if_pos hv]
    exact ⟨fun h => (by cases h), ⟨_, _, _, _, _, apart_23 h0 h1 hk hv _ _ _ _ _ _ _ rfl rfl rfl rfl rfl rfl rfl⟩⟩
  · have hb := apisb (apart_23_bad h0 h1 hk (by omega) _ _ _ _ _ _ _ rfl rfl rfl rfl rfl rfl rfl)
    exact ⟨fun _ => hb, _, _, _, _, _, hb⟩
theorem apb_24 {w : Int} (h0 : 0 ≤ w) (h1 : w < 4294967296) (hk : w / 67108864 = 24) : (decF w = none → ApIs w (.lit (-1)) 0 0 0 0) ∧ ∃ op x y z n, ApIs w op x y z n := by
  have e : (w / 67108864).toNat = 24 := by omega
  unfold decF; rw [e]
  simp only [formF]
  exact ⟨fun h => (by cases h), ⟨_, _, _, _, _, apart_24 h0 h1 hk _ rfl _ _ _ _ _ _ _ rfl rfl rfl rfl rfl rfl rfl⟩⟩
theorem apb_25 {w : Int} (h0 : 0 ≤ w) (h1 : w < 4294967296) (hk : w / 67108864 = 25) : (decF w = none → ApIs w (.lit (-1)) 0 0 0 0) ∧ ∃ op x y z n, ApIs w op x y z n := by
  have e : (w / 67108864).toNat = 25 := by omega
  unfold decF; rw [e]
  simp only [formF]
  exact ⟨fun h => (by cases h), ⟨_, _, _, _, _, apart_25 h0 h1 hk _ rfl _ _ _ _ _ _ _ rfl rfl rfl rfl rfl rfl rfl⟩⟩
theorem apb_26 {w : Int} (h0 : 0 ≤ w) (h1 : w < 4294967296) (hk : w / 67108864 = 26) : (decF w = none → ApIs w (.lit (-1)) 0 0 0 0) ∧ ∃ op x y z n, ApIs w op x y z n := by
  have e : (w / 67108864).toNat = 26 := by omega
  unfold decF; rw [e]
  simp only [formF]
  exact ⟨fun h => (by cases h), ⟨_, _, _, _, _, apart_26 h0 h1 hk _ rfl _ _ _ _ _ _ _ rfl rfl rfl rfl rfl rfl rfl⟩⟩
theorem apb_27 {w : Int} (h0 : 0 ≤ w) (h1 : w < 4294967296) (hk : w / 67108864 = 27) : (decF w = none → ApIs w (.lit (-1)) 0 0 0 0) ∧ ∃ op x y z n, ApIs w op x y z n := by
  have e : (w / 67108864).toNat = 27 := by omega
  unfold decF; rw [e]
  simp only [formF]
  exact ⟨fun h => (by cases h), ⟨_, _, _, _, _, apart_27 h0 h1 hk _ rfl _ _ _ _ _ _ _ rfl rfl rfl rfl rfl rfl rfl⟩⟩
theorem apb_28 {w : Int} (h0 : 0 ≤ w) (h1 : w < 4294967296) (hk : w / 67108864 = 28) : (decF w = none → ApIs w (.lit (-1)) 0 0 0 0) ∧ ∃ op x y z n, ApIs w op x y z n := by
  have e : (w / 67108864).toNat = 28 := by omega
  unfold decF; rw [e]
  simp only [formF]
  exact ⟨fun h => (by cases h), ⟨_, _, _, _, _, apart_28 h0 h1 hk _ rfl _ _ _ _ _ _ _ rfl rfl rfl rfl rfl rfl rfl⟩⟩
theorem apb_29 {w : Int} (h0 : 0 ≤ w) (h1 : w < 4294967296) (hk : w / 67108864 = 29) : (decF w = none → ApIs w (.lit (-1)) 0 0 0 0) ∧ ∃ op x y z n, ApIs w op x y z n := by
  have e : (w / 67108864).toNat = 29 := by omega
  unfold decF; rw [e]
  simp only [formF]
  exact ⟨fun h => (by cases h), ⟨_, _, _, _, _, apart_29 h0 h1 hk _ rfl _ _ _ _ _ _ _ rfl rfl rfl rfl rfl rfl rfl⟩⟩
theorem apb_30 {w : Int} (h0 : 0 ≤ w) (h1 : w < 4294967296) (hk : w / 67108864 = 30) : (decF w = none → ApIs w (.lit (-1)) 0 0 0 0) ∧ ∃ op x y z n, ApIs w op x y z n := by
  have e : (w / 67108864).toNat = 30 := by omega
  unfold decF; rw [e]
  simp only [formF]
  exact ⟨fun h => (by cases h), ⟨_, _, _, _, _, apart_30 h0 h1 hk _ rfl _ _ _ _ _ _ _ rfl rfl rfl rfl rfl rfl rfl⟩⟩
theorem apb_31 {w : Int} (h0 : 0 ≤ w) (h1 : w < 4294967296) (hk : w / 67108864 = 31) : (decF w = none → ApIs w (.lit (-1)) 0 0 0 0) ∧ ∃ op x y z n, ApIs w op x y z n := by
  have e : (w / 67108864).toNat = 31 := by omega
  unfold decF; rw [e]
  simp only [formF]
  exact ⟨fun h => (by cases h), ⟨_, _, _, _, _, apart_31 h0 h1 hk _ rfl _ _ _ _ _ _ _ rfl rfl rfl rfl rfl rfl rfl⟩⟩
theorem apb_32 {w : Int} (h0 : 0 ≤ w) (h1 : w < 4294967296) (hk : w / 67108864 = 32) : (decF w = none → ApIs w (.lit (-1)) 0 0 0 0) ∧ ∃ op x y z n, ApIs w op x y z n := by
  have e : (w / 67108864).toNat = 32 := by omega
  unfold decF; rw [e]
  simp only [formF]
  exact ⟨fun h => (by cases h), ⟨_, _, _, _, _, apart_32 h0 h1 hk _ rfl _ _ _ _ _ _ _ rfl rfl rfl rfl rfl rfl rfl⟩⟩
theorem apb_33 {w : Int} (h0 : 0 ≤ w) (h1 : w < 4294967296) (hk : w / 67108864 = 33) : (decF w = none → ApIs w (.lit (-1)) 0 0 0 0) ∧ ∃ op x y z n, ApIs w op x y z n := by
  have e : (w / 67108864).toNat = 33 := by omega
  unfold decF; rw [e]
  simp only [formF]
  exact ⟨fun h => (by cases h), ⟨_, _, _, _, _, apart_33 h0 h1 hk _ rfl _ _ _ _ _ _ _ rfl rfl rfl rfl rfl rfl rfl⟩⟩
theorem apb_34 {w : Int} (h0 : 0 ≤ w) (h1 : w < 4294967296) (hk : w / 67108864 = 34) : (decF w = none → ApIs w (.lit (-1)) 0 0 0 0) ∧ ∃ op x y z n, ApIs w op x y z n := by
  have e : (w / 67108864).toNat = 34 := by omega
  unfold decF; rw [e]
  simp only [formF]
  exact ⟨fun h => (by cases h), ⟨_, _, _, _, _, apart_34 h0 h1 hk _ rfl _ _ _ _ _ _ _ rfl rfl rfl rfl rfl rfl rfl⟩⟩
theorem apb_35 {w : Int} (h0 : 0 ≤ w) (h1 : w < 4294967296) (hk : w / 67108864 = 35) : (decF w = none → ApIs w (.lit (-1)) 0 0 0 0) ∧ ∃ op x y z n, ApIs w op x y z n := by
  have e : (w / 67108864).toNat = 35 := by omega
  unfold decF; rw [e]
  simp only [formF]
  exact ⟨fun h => (by cases h), ⟨_, _, _, _, _, apart_35 h0 h1 hk _ rfl _ _ _ _ _ _ _ rfl rfl rfl rfl rfl rfl rfl⟩⟩
theorem apb_36 {w : Int} (h0 : 0 ≤ w) (h1 : w < 4294967296) (hk : w / 67108864 = 36) : (decF w = none → ApIs w (.lit (-1)) 0 0 0 0) ∧ ∃ op x y z n, ApIs w op x y z n := by
  have e : (w / 67108864).toNat = 36 := by omega
  unfold decF; rw [e]
  simp only [formF]
  exact ⟨fun h => (by cases h), ⟨_, _, _, _, _, apart_36 h0 h1 hk _ rfl _ _ _ _ _ _ _ rfl rfl rfl rfl rfl rfl rfl⟩⟩
theorem apb_37 {w : Int} (h0 : 0 ≤ w) (h1 : w < 4294967296) (hk : w / 67108864 = 37) : (decF w = none → ApIs w (.lit (-1)) 0 0 0 0) ∧ ∃ op x y z n, ApIs w op x y z n := by
  have e : (w / 67108864).toNat = 37 := by omega
  unfold decF; rw [e]
  simp only [formF]
  exact ⟨fun h => (by cases h), ⟨_, _, _, _, _, apart_37 h0 h1 hk _ rfl _ _ _ _ _ _ _ rfl rfl rfl rfl rfl rfl rfl⟩⟩
theorem apb_38 {w : Int} (h0 : 0 ≤ w) (h1 : w < 4294967296) (hk : w / 67108864 = 38) : (decF w = none → ApIs w (.lit (-1)) 0 0 0 0) ∧ ∃ op x y z n, ApIs w op x y z n := by
  have e : (w / 67108864).toNat = 38 := by omega
  unfold decF; rw [e]
  simp only [formF]
  exact ⟨fun h => (by cases h), ⟨_, _, _, _, _, apart_38 h0 h1 hk _ rfl _ _ _ _ _ _ _ rfl rfl rfl rfl rfl rfl rfl⟩⟩
theorem apb_39 {w : Int} (h0 : 0 ≤ w) (h1 : w < 4294967296) (hk : w / 67108864 = 39) : (decF w = none → ApIs w (.lit (-1)) 0 0 0 0) ∧ ∃ op x y z n, ApIs w op x y z n := by
  have e : (w / 67108864).toNat = 39 := by omega
  unfold decF; rw [e]
  simp only [formF]
  exact ⟨fun h => (by cases h), ⟨_, _, _, _, _, apart_39 h0 h1 hk _ rfl _ _ _ _ _ _ _ rfl rfl rfl rfl rfl rfl rfl⟩⟩
theorem apb_40 {w : Int} (h0 : 0 ≤ w) (h1 : w < 4294967296) (hk : w / 67108864 = 40) : (decF w = none → ApIs w (.lit (-1)) 0 0 0 0) ∧ ∃ op x y z n, ApIs w op x y z n := by
  have e : (w / 67108864).toNat = 40 := by omega
  unfold decF; rw [e]
  simp only [formF]
  by_cases hv : w % 67108864 < 262144
  · rw [if_pos hv]
    exact ⟨fun h => (by cases h), ⟨_, _, _, _, _, apart_40 h0 h1 hk hv _ _ _ _ _ _ _ rfl rfl rfl rfl rfl rfl rfl⟩⟩
  · have hb := apisb (apart_40_bad h0 h1 hk (by omega) _ _ _ _ _ _ _ rfl rfl rfl rfl rfl rfl rfl)
    exact ⟨fun _ => hb, _, _, _, _, _, hb⟩
theorem apb_41 {w : Int} (h0 : 0 ≤ w) (h1 : w < 4294967296) (hk : w / 67108864 = 41) : (decF w = none → ApIs w (.lit (-1)) 0 0 0 0) ∧ ∃ op x y z n, ApIs w op x y z n := by
  have e : (w / 67108864).toNat = 41 := by omega
  unfold decF; rw [e]
  simp only [formF]
  by_cases hv : w % 4194304 = 0
  · rw [if_pos hv]
    exact ⟨fun h => (by cases h), ⟨_, _, _, _, _, apis0 (apart_41 h0 h1 hk hv _ _ _ _ _ _ _ rfl rfl rfl rfl rfl rfl rfl)⟩⟩
  · have hb := apisb (apart_41_bad h0 h1 hk (by omega) _ _ _ _ _ _ _ rfl rfl rfl rfl rfl rfl rfl)
    exact ⟨fun _ => hb, _, _, _, _, _, hb⟩
theorem apb_42 {w : Int} (h0 : 0 ≤ w) (h1 : w < 4294967296) (hk : w / 67108864 = 42) : (decF w = none → ApIs w (.lit (-1)) 0 0 0 0) ∧ ∃ op x y z n, ApIs w op x y z n := by
  have e : (w / 67108864).toNat = 42 := by omega
  unfold decF; rw [e]
  simp only [formF]
  by_cases hv : w % 67108864 = 0
  · rw [if_pos hv]
    exact ⟨fun h => (by cases h), ⟨_, _, _, _, _, apis0 (apart_42 h0 h1 hk hv _ _ _ _ _ _ _ rfl rfl rfl rfl rfl rfl rfl)⟩⟩
  · have hb := apisb (apart_42_bad h0 h1 hk (by omega) _ _ _ _ _ _ _ rfl rfl rfl rfl rfl rfl rfl)
    exact ⟨fun _ => hb, _, _, _, _, _, hb⟩
theorem apb_43 {w : Int} (h0 : 0 ≤ w) (h1 : w < 4294967296) (hk : w / 67108864 = 43) : (decF w = none → ApIs w (.lit (-1)) 0 0 0 0) ∧ ∃ op x y z n, ApIs w op x y z n := by
  have e : (w / 67108864).toNat = 43 := by omega
  unfold decF; rw [e]
  simp only [formF]
  by_cases hv : w % 67108864 = 0
  · rw [if_pos hv]
    exact ⟨fun h => (by cases h), ⟨_, _, _, _, _, apis0 (apart_43 h0 h1 hk hv _ _ _ _ _ _ _ rfl rfl rfl rfl rfl rfl rfl)⟩⟩
  · have hb := apisb (apart_43_bad h0 h1 hk (by omega) _ _ _ _ _ _ _ rfl rfl rfl rfl rfl rfl rfl)
    exact ⟨fun _ => hb, _, _, _, _, _, hb⟩
theorem apb_44 {w : Int} (h0 : 0 ≤ w) (h1 : w < 4294967296) (hk : w / 67108864 = 44) : (decF w = none → ApIs w (.lit (-1)) 0 0 0 0) ∧ ∃ op x y z n, ApIs w op x y z n := by
  have e : (w / 67108864).toNat = 44 := by omega
  unfold decF; rw [e]
  simp only [formF]
  by_cases hv : w % 67108864 = 0
  · rw [if_pos hv]
    exact ⟨fun h => (by cases h), ⟨_, _, _, _, _, apis0 (apart_44 h0 h1 hk hv _ _ _ _ _ _ _ rfl rfl rfl rfl rfl rfl rfl)⟩⟩
  · have hb := apisb (apart_44_bad h0 h1 hk (by omega) _ _ _ _ _ _ _ rfl rfl rfl rfl rfl rfl rfl)
    exact ⟨fun _ => hb, _, _, _, _, _, hb⟩
theorem apb_45 {w : Int} (h0 : 0 ≤ w) (h1 : w < 4294967296) (hk : w / 67108864 = 45) : (decF w = none → ApIs w (.lit (-1)) 0 0 0 0) ∧ ∃ op x y z n, ApIs w op x y z n := by
  have e : (w / 67108864).toNat = 45 := by omega
  unfold decF; rw [e]
  simp only [formF]
  by_cases hv : w % 67108864 = 0
  · rw [if_pos hv]
    exact ⟨fun h => (by cases h), ⟨_, _, _, _, _, apis0 (apart_45 h0 h1 hk hv _ _ _ _ _ _ _ rfl rfl rfl rfl rfl rfl rfl)⟩⟩
  · have hb := apisb (apart_45_bad h0 h1 hk (by omega) _ _ _ _ _ _ _ rfl rfl rfl rfl rfl rfl rfl)
    exact ⟨fun _ => hb, _, _, _, _, _, hb⟩
theorem apb_46 {w : Int} (h0 : 0 ≤ w) (h1 : w < 4294967296) (hk : w / 67108864 = 46) : (decF w = none → ApIs w (.lit (-1)) 0 0 0 0) ∧ ∃ op x y z n, ApIs w op x y z n := by
  have e : (w / 67108864).toNat = 46 := by omega
  unfold decF; rw [e]
  simp only [formF]
  by_cases hv : w % 4194304 = 0
  · rw [if_pos hv]
    exact ⟨fun h => (by cases h), ⟨_, _, _, _, _, apis0 (apart_46 h0 h1 hk hv _ _ _ _ _ _ _ rfl rfl rfl rfl rfl rfl rfl)⟩⟩
  · have hb := apisb (apart_46_bad h0 h1 hk (by omega) _ _ _ _ _ _ _ rfl rfl rfl rfl rfl rfl rfl)
    exact ⟨fun _ => hb, _, _, _, _, _, hb⟩
theorem apb_47 {w : Int} (h0 : 0 ≤ w) (h1 : w < 4294967296) (hk : w / 67108864 = 47) : (decF w = none → ApIs w (.lit (-1)) 0 0 0 0) ∧ ∃ op x y z n, ApIs w op x y z n := by
  have e : (w / 67108864).toNat = 47 := by omega
  unfold decF; rw [e]
  simp only [formF]
  by_cases hv : w % 67108864 = 0
  · rw [if_pos hv]
    exact ⟨fun h => (by cases h), ⟨_, _, _, _, _, apis0 (apart_47 h0 h1 hk hv _ _ _ _ _ _ _ rfl rfl rfl rfl rfl rfl rfl)⟩⟩
  · have hb := apisb (apart_47_bad h0 h1 hk (by omega) _ _ _ _ _ _ _ rfl rfl rfl rfl rfl rfl rfl)
    exact ⟨fun _ => hb, _, _, _, _, _, hb⟩
theorem apb_48 {w : Int} (h0 : 0 ≤ w) (h1 : w < 4294967296) (hk : w / 67108864 = 48) : (decF w = none → ApIs w (.lit (-1)) 0 0 0 0) ∧ ∃ op x y z n, ApIs w op x y z n := by
  have e : (w / 67108864).toNat = 48 := by omega
  unfold decF; rw [e]
  simp only [formF]
  by_cases hv : w % 67108864 = 0
  · rw [if_pos hv]
    exact ⟨fun h => (by cases h), ⟨_, _, _, _, _, apis0 (apart_48 h0 h1 hk hv _ _ _ _ _ _ _ rfl rfl rfl rfl rfl rfl rfl)⟩⟩
  · have hb := apisb (apart_48_bad h0 h1 hk (by omega) _ _ _ _ _ _ _ rfl rfl rfl rfl rfl rfl rfl)
    exact ⟨fun _ => hb, _, _, _, _, _, hb⟩
theorem apb {w : Int} (h0 : 0 ≤ w) (h1 : w < 4294967296) : (decF w = none → ApIs w (.lit (-1)) 0 0 0 0) ∧ ∃ op x y z n, ApIs w op x y z n := by
  rcases k_cases h0 h1 with hk | hk | hk | hk | hk | hk | hk | hk | hk | hk | hk | hk | hk | hk | hk | hk | hk | hk | hk | hk | hk | hk | hk | hk | hk | hk | hk | hk | hk | hk | hk | hk | hk | hk | hk | hk | hk | hk | hk | hk | hk | hk | hk | hk | hk | hk | hk | hk | hk
  · have hb := apisb (apart_none h0 h1 hk _ _ _ _ _ rfl rfl rfl rfl rfl)
    exact ⟨fun _ => hb, _, _, _, _, _, hb⟩
  · exact apb_1 h0 h1 hk
  · exact apb_2 h0 h1 hk
  · exact apb_3 h0 h1 hk
  · exact apb_4 h0 h1 hk
  · exact apb_5 h0 h1 hk
  · exact apb_6 h0 h1 hk
  · exact apb_7 h0 h1 hk
  · exact apb_8 h0 h1 hk
  · exact apb_9 h0 h1 hk
  · exact apb_10 h0 h1 hk
  · exact apb_11 h0 h1 hk
  · exact apb_12 h0 h1 hk
  · exact apb_13 h0 h1 hk
  · exact apb_14 h0 h1 hk
  · exact apb_15 h0 h1 hk
  · exact apb_16 h0 h1 hk
  · exact apb_17 h0 h1 hk
  · exact apb_18 h0 h1 hk
  · exact apb_19 h0 h1 hk
  · exact apb_20 h0 h1 hk
  · exact apb_21 h0 h1 hk
  · exact apb_22 h0 h1 hk
  · exact apb_23 h0 h1 hk
  · exact apb_24 h0 h1 hk
  · exact apb_25 h0 h1 hk
  · exact apb_26 h0 h1 hk
  · exact apb_27 h0 h1 hk
  · exact apb_28 h0 h1 hk
  · exact apb_29 h0 h1 hk
  · exact apb_30 h0 h1 hk
  · exact apb_31 h0 h1 hk
  · exact apb_32 h0 h1 hk
  · exact apb_33 h0 h1 hk
  · exact apb_34 h0 h1 hk
  · exact apb_35 h0 h1 hk
  · exact apb_36 h0 h1 hk
  · exact apb_37 h0 h1 hk
  · exact apb_38 h0 h1 hk
  · exact apb_39 h0 h1 hk
  · exact apb_40 h0 h1 hk
  · exact apb_41 h0 h1 hk
  · exact apb_42 h0 h1 hk
  · exact apb_43 h0 h1 hk
  · exact apb_44 h0 h1 hk
  · exact apb_45 h0 h1 hk
  · exact apb_46 h0 h1 hk
  · exact apb_47 h0 h1 hk
  · exact apb_48 h0 h1 hk
theorem rtail_all {s : RegS} {bd : BoardS} {F : Option (Nat × Nat) → Own → World → Prop} {w : Int} (cyc : Int) (hs : RegOk s) (hz0 : s.r.set 0 0 = s.r) (hbd : BdOk bd) (h0 : 0 ≤ w) (h1 : w < 4294967296) (i : Ins) (h : decF w = some i) : RTailF s bd F w cyc (execF i.op i.d i.a i.b i.imm s bd cyc) := by
  rcases k_cases h0 h1 with hk | hk | hk | hk | hk | hk | hk | hk | hk | hk | hk | hk | hk | hk | hk | hk | hk | hk | hk | hk | hk | hk | hk | hk | hk | hk | hk | hk | hk | hk | hk | hk | hk | hk | hk | hk | hk | hk | hk | hk | hk | hk | hk | hk | hk | hk | hk | hk | hk
  · exfalso
    have : formF (w / 67108864).toNat = 0 := by
      have e : (w / 67108864).toNat = 0 ∨ 49 ≤ (w / 67108864).toNat := by omega
      rcases e with e | e
      · rw [e]; rfl
      · obtain ⟨m, hm⟩ := Nat.exists_eq_add_of_le e
        rw [hm, Nat.add_comm]; rfl
    unfold decF at h; simp only [this] at h; cases h
  · exact rtl_1 cyc hs hz0 hbd h0 h1 hk i h
  · exact rtl_2 cyc hs hz0 hbd h0 h1 hk i h
  · exact rtl_3 cyc hs hz0 hbd h0 h1 hk i h
  · exact rtl_4 cyc hs hz0 hbd h0 h1 hk i h
  · exact rtl_5 cyc hs hz0 hbd h0 h1 hk i h
  · exact rtl_6 cyc hs hz0 hbd h0 h1 hk i h
  · exact rtl_7 cyc hs hz0 hbd h0 h1 hk i h
  · exact rtl_8 cyc hs hz0 hbd h0 h1 hk i h
  · exact rtl_9 cyc hs hz0 hbd h0 h1 hk i h
  · exact rtl_10 cyc hs hz0 hbd h0 h1 hk i h
  · exact rtl_11 cyc hs hz0 hbd h0 h1 hk i h
  · exact rtl_12 cyc hs hz0 hbd h0 h1 hk i h
  · exact rtl_13 cyc hs hz0 hbd h0 h1 hk i h
  · exact rtl_14 cyc hs hz0 hbd h0 h1 hk i h
  · exact rtl_15 cyc hs hz0 hbd h0 h1 hk i h
  · exact rtl_16 cyc hs hz0 hbd h0 h1 hk i h
  · exact rtl_17 cyc hs hz0 hbd h0 h1 hk i h
  · exact rtl_18 cyc hs hz0 hbd h0 h1 hk i h
  · exact rtl_19 cyc hs hz0 hbd h0 h1 hk i h
  · exact rtl_20 cyc hs hz0 hbd h0 h1 hk i h
  · exact rtl_21 cyc hs hz0 hbd h0 h1 hk i h
  · exact rtl_22 cyc hs hz0 hbd h0 h1 hk i h
  · exact rtl_23 cyc hs hz0 hbd h0 h1 hk i h
  · exact rtl_24 cyc hs hz0 hbd h0 h1 hk i h
  · exact rtl_25 cyc hs hz0 hbd h0 h1 hk i h
  · exact rtl_26 cyc hs hz0 hbd h0 h1 hk i h
  · exact rtl_27 cyc hs hz0 hbd h0 h1 hk i h
  · exact rtl_28 cyc hs hz0 hbd h0 h1 hk i h
  · exact rtl_29 cyc hs hz0 hbd h0 h1 hk i h
  · exact rtl_30 cyc hs hz0 hbd h0 h1 hk i h
  · exact rtl_31 cyc hs hz0 hbd h0 h1 hk i h
  · exact rtl_32 cyc hs hz0 hbd h0 h1 hk i h
  · exact rtl_33 cyc hs hz0 hbd h0 h1 hk i h
  · exact rtl_34 cyc hs hz0 hbd h0 h1 hk i h
  · exact rtl_35 cyc hs hz0 hbd h0 h1 hk i h
  · exact rtl_36 cyc hs hz0 hbd h0 h1 hk i h
  · exact rtl_37 cyc hs hz0 hbd h0 h1 hk i h
  · exact rtl_38 cyc hs hz0 hbd h0 h1 hk i h
  · exact rtl_39 cyc hs hz0 hbd h0 h1 hk i h
  · exact rtl_40 cyc hs hz0 hbd h0 h1 hk i h
  · exact rtl_41 cyc hs hz0 hbd h0 h1 hk i h
  · exact rtl_42 cyc hs hz0 hbd h0 h1 hk i h
  · exact rtl_43 cyc hs hz0 hbd h0 h1 hk i h
  · exact rtl_44 cyc hs hz0 hbd h0 h1 hk i h
  · exact rtl_45 cyc hs hz0 hbd h0 h1 hk i h
  · exact rtl_46 cyc hs hz0 hbd h0 h1 hk i h
  · exact rtl_47 cyc hs hz0 hbd h0 h1 hk i h
  · exact rtl_48 cyc hs hz0 hbd h0 h1 hk i h
end Go.Proofs.YtkljgpepogkgdaaDoor
namespace Go.Proofs.YtkljgpepogkgdaaDoor
open Go Go.Vex
set_option maxRecDepth 20000
set_option maxHeartbeats 4000000
noncomputable def I13s : FnT := [(13, fi Tryd.f13 ⟨[1000011], 0⟩)]
theorem I13sok : FnsOk kit I13s := ⟨fo13 _, trivial⟩
theorem zero0_z (s : RegS) : (zero0 s).r.set 0 0 = (zero0 s).r := by simp [zero0]
theorem rtail_main (s : RegS) (b1 : BoardS) (hs : RegOk s) (hz0 : s.r.set 0 0 = s.r) (hb : BdOk (fetchS b1 s.pc)) (hw : ∀ z ∈ b1.words, U32 z) (F : Option (Nat × Nat) → Own → World → Prop) (o : Out) (ho : tailF s b1 = o) :
    RTailOk s (fetchS b1 s.pc) F (pick1 b1.words b1.nw) (pick1 b1.cycles b1.nc) (.ex (pick1 b1.faults b1.nf)) o.res o.regs o.bd := by
  have hW := pickw_ok hw
  unfold tailF at ho
  simp only at ho
  by_cases hf : pick1 b1.faults b1.nf ≠ 0
  · rw [if_pos hf] at ho
    subst ho
    exact (let ⟨_, _, _, _, _, ha⟩ := (apb hW.1 hW.2).2; rtail_flt _ _ hs hf _ rfl ha)
  · rw [if_neg hf] at ho
    have hf0 : pick1 b1.faults b1.nf = 0 := by simpa using hf
    have weak : ∀ {o : Out}, RTailOk s (fetchS b1 s.pc) F (pick1 b1.words b1.nw) (pick1 b1.cycles b1.nc) (.lit 0) o.res o.regs o.bd →
        RTailOk s (fetchS b1 s.pc) F (pick1 b1.words b1.nw) (pick1 b1.cycles b1.nc) (.ex (pick1 b1.faults b1.nf)) o.res o.regs o.bd := by
      intro o h
      rw [hf0]
      generalize pick1 b1.words b1.nw = w at *
      generalize pick1 b1.cycles b1.nc = cyc at *
      generalize fetchS b1 s.pc = b2 at *
      obtain ⟨r, pc, vec, back, on, hdl⟩ := s
      exact Ok.weak (LeSt.mk' [0, 1, 2, 3] (by decide) rfl id (by cbv) (by cbv)) h
    cases hd : decF (pick1 b1.words b1.nw) with
    | none =>
      rw [hd] at ho; subst ho
      exact weak (o := ⟨_, _, _⟩) (rtail_bd _ hs ((apb hW.1 hW.2).1 hd) _ rfl)
    | some i =>
      rw [hd] at ho; subst ho
      exact weak (rtail_all _ hs hz0 hb hW.1 hW.2 i hd)
theorem rstep_spec (s : RegS) (bd : BoardS) (hs : RegOk s) (hbd : BdOkW bd) (o : Out) (ho : stepF s bd = o) : Spec1 kit 13 [.p 0 (.at 0), .p 1 (.at 0)] [.cells 25 (regL s), boardB bd] false (.agg (resL o.res)) [.cells 25 (regL o.regs), boardB o.bd] [] := by
  refine Spec1.mk2 rfl fun F => ?_
  obtain ⟨r, pc, vec, back, on, hdl⟩ := s
  obtain ⟨⟨kind', cyc', num', flt', addr', line', loaded', value', read', clk'⟩, ⟨r', pc', vec', back', on', hdl'⟩, bd'⟩ := o
  refine into I13sok 6 ?_
  conv => cbv
  refine Br.mk (fun hon => ?_) (fun hon => ?_)
  · replace hon : on = true := hon
    subst hon
    conv => cbv
    refine Br.mk (fun hhd => ?_) (fun hhd => ?_)
    · replace hhd : notB hdl = true := hhd
      rw [notB_eq, Bool.not_eq_true'] at hhd
      subst hhd
      have htk : takes ⟨r, pc, vec, back, true, false⟩ = true := rfl
      rw [stepF, if_pos htk] at ho
      have hsi := irq_spec bd hbd.bnd (by have := hbd.log; omega)
      generalize hn : (irqR bd).1 = n at hsi ho
      generalize hq : (irqR bd).2 = q at hsi ho
      obtain ⟨g1, g2, g3, g4⟩ := irq_okW hbd
      generalize irqS bd = b1 at *
      conv => cbv
      refine OkCall.by_spec hsi [1] (by decide) (by cbv) (by cbv) ?_
      conv => cbv
      refine Br.mk (fun hok => ?_) (fun hok => ?_)
      · replace hok : q = true := hok
        rw [if_pos hok] at ho
        simp only [zero0, Out.mk.injEq, ResS.mk.injEq, RegS.mk.injEq] at ho
        obtain ⟨⟨rfl, rfl, rfl, rfl, rfl, rfl, rfl, rfl, rfl, rfl⟩, ⟨hr', rfl, rfl, rfl, rfl, rfl⟩, rfl⟩ := ho
        conv => cbv
        refine (LeOut.mk' [0, 1, 2] (by decide) rfl (by decide) (by cbv) ?_).two
        conv => cbv
        exact ⟨⟨by show r' = setI (setI r 0 0) 14 (convI .u32 n); rw [setI_eq, setI_eq, conv_imm, hr'], trivial⟩, trivial⟩
      · replace hok : q = false := hok
        rw [if_neg (by rw [hok]; decide)] at ho
        conv => cbv
        have hsp := fetch_spec b1 pc g1 g2
        have htl := rtail_main (zero0 ⟨r, pc, vec, back, true, false⟩) b1 (zero0_ok hs) (zero0_z _) (fetch_ok_pc pc g3) g4 F ⟨⟨kind', cyc', num', flt', addr', line', loaded', value', read', clk'⟩, ⟨r', pc', vec', back', on', hdl'⟩, bd'⟩ ho
        simp only [zero0] at htl
        generalize hw0 : pick1 (b1).words (b1).nw = w0 at hsp htl
        generalize hw1 : pick1 (b1).cycles (b1).nc = c0 at hsp htl
        generalize hw2 : pick1 (b1).faults (b1).nf = f0 at hsp htl
        generalize hw3 : fetchS (b1) pc = b2 at hsp htl
        refine OkCall.by_spec hsp [1] (by decide) (by cbv) (by cbv) ?_
        conv => cbv
        generalize hr0 : r.set 0 0 = r0 at htl
        refine Ok.conseq (Ok.weak (LeSt.mk' [0, 1, 2, 3] (by decide) rfl (by decide) (by cbv) ?_) (show Ok kit _ 3 _ false _ _ from htl)) (fun q e s h => h)
        conv => cbv
        exact ⟨⟨by show r0 = setI r 0 0; rw [setI_eq, hr0], trivial⟩, trivial⟩
    · replace hhd : notB hdl = false := hhd
      rw [notB_eq, Bool.not_eq_false'] at hhd
      subst hhd
      have htk : takes ⟨r, pc, vec, back, true, true⟩ ≠ true := by simp [takes]
      rw [stepF, if_neg htk] at ho
      conv => cbv
      have hsp := fetch_spec bd pc hbd.bnd (by have := hbd.log; omega)
      have htl := rtail_main (zero0 ⟨r, pc, vec, back, true, true⟩) bd (zero0_ok hs) (zero0_z _) (fetch_ok hbd pc) hbd.words F ⟨⟨kind', cyc', num', flt', addr', line', loaded', value', read', clk'⟩, ⟨r', pc', vec', back', on', hdl'⟩, bd'⟩ ho
      simp only [zero0] at htl
      generalize hw0 : pick1 (bd).words (bd).nw = w0 at hsp htl
      generalize hw1 : pick1 (bd).cycles (bd).nc = c0 at hsp htl
      generalize hw2 : pick1 (bd).faults (bd).nf = f0 at hsp htl
      generalize hw3 : fetchS (bd) pc = b2 at hsp htl
      refine OkCall.by_spec hsp [1] (by decide) (by cbv) (by cbv) ?_
      conv => cbv
      generalize hr0 : r.set 0 0 = r0 at htl
      refine Ok.conseq (Ok.weak (LeSt.mk' [0, 1, 2, 3] (by decide) rfl (by decide) (by cbv) ?_) (show Ok kit _ 3 _ false _ _ from htl)) (fun q e s h => h)
      conv => cbv
      exact ⟨⟨by show r0 = setI r 0 0; rw [setI_eq, hr0], trivial⟩, trivial⟩
  · replace hon : on = false := hon
    subst hon
    have htk : takes ⟨r, pc, vec, back, false, hdl⟩ ≠ true := by unfold takes; simp
    rw [stepF, if_neg htk] at ho
    conv => cbv
    have hsp := fetch_spec bd pc hbd.bnd (by have := hbd.log; omega)
    have htl := rtail_main (zero0 ⟨r, pc, vec, back, false, hdl⟩) bd (zero0_ok hs) (zero0_z _) (fetch_ok hbd pc) hbd.words F ⟨⟨kind', cyc', num', flt', addr', line', loaded', value', read', clk'⟩, ⟨r', pc', vec', back', on', hdl'⟩, bd'⟩ ho
    simp only [zero0] at htl
    generalize hw0 : pick1 (bd).words (bd).nw = w0 at hsp htl
    generalize hw1 : pick1 (bd).cycles (bd).nc = c0 at hsp htl
    generalize hw2 : pick1 (bd).faults (bd).nf = f0 at hsp htl
    generalize hw3 : fetchS (bd) pc = b2 at hsp htl
    refine OkCall.by_spec hsp [1] (by decide) (by cbv) (by cbv) ?_
    conv => cbv
    generalize hr0 : r.set 0 0 = r0 at htl
    refine Ok.conseq (Ok.weak (LeSt.mk' [0, 1, 2, 3] (by decide) rfl (by decide) (by cbv) ?_) (show Ok kit _ 3 _ false _ _ from htl)) (fun q e s h => h)
    conv => cbv
    exact ⟨⟨by show r0 = setI r 0 0; rw [setI_eq, hr0], trivial⟩, trivial⟩
end Go.Proofs.YtkljgpepogkgdaaDoor
