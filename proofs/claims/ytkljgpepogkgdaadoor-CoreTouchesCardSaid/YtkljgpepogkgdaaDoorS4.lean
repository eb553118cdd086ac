/-
  core.Step's tail, for every word, 2.
-/
import Derived.Test.YtkljgpepogkgdaaDoorS3
set_option linter.unusedVariables false
set_option linter.unusedSimpArgs false
namespace Go.Proofs.YtkljgpepogkgdaaDoor
open Go Go.Vex
set_option maxRecDepth 20000
set_option maxHeartbeats 4000000
abbrev TailF (s : RegS) (bd : BoardS) (F : Option (Nat × Nat) → Own → World → Prop) (w cyc : Int) (o : Out) : Prop := TailOk s bd F w cyc (.lit 0) o.res o.regs o.bd
theorem tl_1 {s : RegS} {bd : BoardS} {F : Option (Nat × Nat) → Own → World → Prop} {w : Int} (cyc : Int) (hs : RegOk s) (hbd : BdOk bd) (h0 : 0 ≤ w) (h1 : w < 4294967296) (hk : w / 67108864 = 1) (i : Ins) (h : decF w = some i) : TailF s bd F w cyc (execF i.op i.d i.a i.b i.imm s bd cyc) := by
  obtain ⟨ho, hdec⟩ := decis_1 h0 h1 hk i h
  obtain ⟨g1, g2, g3⟩ := dec_rng h0 h1 h
  have g4 := dec_imm h0 h1 h
  rw [ho] at g4 ⊢
  obtain ⟨op, d, a, b, imm⟩ := i
  obtain ⟨r, pc, vec, back, on, hdl⟩ := s
  exact tail_1 r pc vec back on hdl bd F w cyc d a b imm hs hbd g1 g2 g3 hdec _ _ _ rfl rfl rfl
theorem tl_2 {s : RegS} {bd : BoardS} {F : Option (Nat × Nat) → Own → World → Prop} {w : Int} (cyc : Int) (hs : RegOk s) (hbd : BdOk bd) (h0 : 0 ≤ w) (h1 : w < 4294967296) (hk : w / 67108864 = 2) (i : Ins) (h : decF w = some i) : TailF s bd F w cyc (execF i.op i.d i.a i.b i.imm s bd cyc) := by
  obtain ⟨ho, hdec⟩ := decis_2 h0 h1 hk i h
  obtain ⟨g1, g2, g3⟩ := dec_rng h0 h1 h
  have g4 := dec_imm h0 h1 h
  rw [ho] at g4 ⊢
  obtain ⟨op, d, a, b, imm⟩ := i
  obtain ⟨r, pc, vec, back, on, hdl⟩ := s
  exact tail_2 r pc vec back on hdl bd F w cyc d a b imm hs hbd g1 g2 g3 hdec _ _ _ rfl rfl rfl
theorem tl_3 {s : RegS} {bd : BoardS} {F : Option (Nat × Nat) → Own → World → Prop} {w : Int} (cyc : Int) (hs : RegOk s) (hbd : BdOk bd) (h0 : 0 ≤ w) (h1 : w < 4294967296) (hk : w / 67108864 = 3) (i : Ins) (h : decF w = some i) : TailF s bd F w cyc (execF i.op i.d i.a i.b i.imm s bd cyc) := by
  obtain ⟨ho, hdec⟩ := decis_3 h0 h1 hk i h
  obtain ⟨g1, g2, g3⟩ := dec_rng h0 h1 h
  have g4 := dec_imm h0 h1 h
  rw [ho] at g4 ⊢
  obtain ⟨op, d, a, b, imm⟩ := i
  obtain ⟨r, pc, vec, back, on, hdl⟩ := s
  exact tail_3 r pc vec back on hdl bd F w cyc d a b imm hs hbd g1 g2 g3 hdec _ _ _ rfl rfl rfl
theorem tl_4 {s : RegS} {bd : BoardS} {F : Option (Nat × Nat) → Own → World → Prop} {w : Int} (cyc : Int) (hs : RegOk s) (hbd : BdOk bd) (h0 : 0 ≤ w) (h1 : w < 4294967296) (hk : w / 67108864 = 4) (i : Ins) (h : decF w = some i) : TailF s bd F w cyc (execF i.op i.d i.a i.b i.imm s bd cyc) := by
  obtain ⟨ho, hdec⟩ := decis_4 h0 h1 hk i h
  obtain ⟨g1, g2, g3⟩ := dec_rng h0 h1 h
  have g4 := dec_imm h0 h1 h
  rw [ho] at g4 ⊢
  obtain ⟨op, d, a, b, imm⟩ := i
  obtain ⟨r, pc, vec, back, on, hdl⟩ := s
  exact tail_4 r pc vec back on hdl bd F w cyc d a b imm hs hbd g1 g2 g3 hdec _ _ _ rfl rfl rfl
theorem tl_5 {s : RegS} {bd : BoardS} {F : Option (Nat × Nat) → Own → World → Prop} {w : Int} (cyc : Int) (hs : RegOk s) (hbd : BdOk bd) (h0 : 0 ≤ w) (h1 : w < 4294967296) (hk : w / 67108864 = 5) (i : Ins) (h : decF w = some i) : TailF s bd F w cyc (execF i.op i.d i.a i.b i.imm s bd cyc) := by
  obtain ⟨ho, hdec⟩ := decis_5 h0 h1 hk i h
  obtain ⟨g1, g2, g3⟩ := dec_rng h0 h1 h
  have g4 := dec_imm h0 h1 h
  rw [ho] at g4 ⊢
  obtain ⟨op, d, a, b, imm⟩ := i
  obtain ⟨r, pc, vec, back, on, hdl⟩ := s
  exact tail_5 r pc vec back on hdl bd F w cyc d a b imm hs hbd g1 g2 g3 hdec _ _ _ rfl rfl rfl
theorem tl_6 {s : RegS} {bd : BoardS} {F : Option (Nat × Nat) → Own → World → Prop} {w : Int} (cyc : Int) (hs : RegOk s) (hbd : BdOk bd) (h0 : 0 ≤ w) (h1 : w < 4294967296) (hk : w / 67108864 = 6) (i : Ins) (h : decF w = some i) : TailF s bd F w cyc (execF i.op i.d i.a i.b i.imm s bd cyc) := by
  obtain ⟨ho, hdec⟩ := decis_6 h0 h1 hk i h
  obtain ⟨g1, g2, g3⟩ := dec_rng h0 h1 h
  have g4 := dec_imm h0 h1 h
  rw [ho] at g4 ⊢
  obtain ⟨op, d, a, b, imm⟩ := i
  obtain ⟨r, pc, vec, back, on, hdl⟩ := s
  exact tail_6 r pc vec back on hdl bd F w cyc d a b imm hs hbd g1 g2 g3 hdec _ _ _ rfl rfl rfl
theorem tl_7 {s : RegS} {bd : BoardS} {F : Option (Nat × Nat) → Own → World → Prop} {w : Int} (cyc : Int) (hs : RegOk s) (hbd : BdOk bd) (h0 : 0 ≤ w) (h1 : w < 4294967296) (hk : w / 67108864 = 7) (i : Ins) (h : decF w = some i) : TailF s bd F w cyc (execF i.op i.d i.a i.b i.imm s bd cyc) := by
  obtain ⟨ho, hdec⟩ := decis_7 h0 h1 hk i h
  obtain ⟨g1, g2, g3⟩ := dec_rng h0 h1 h
  have g4 := dec_imm h0 h1 h
  rw [ho] at g4 ⊢
  obtain ⟨op, d, a, b, imm⟩ := i
  obtain ⟨r, pc, vec, back, on, hdl⟩ := s
  exact tail_7 r pc vec back on hdl bd F w cyc d a b imm hs hbd g1 g2 g3 hdec _ _ _ rfl rfl rfl
theorem tl_8 {s : RegS} {bd : BoardS} {F : Option (Nat × Nat) → Own → World → Prop} {w : Int} (cyc : Int) (hs : RegOk s) (hbd : BdOk bd) (h0 : 0 ≤ w) (h1 : w < 4294967296) (hk : w / 67108864 = 8) (i : Ins) (h : decF w = some i) : TailF s bd F w cyc (execF i.op i.d i.a i.b i.imm s bd cyc) := by
  obtain ⟨ho, hdec⟩ := decis_8 h0 h1 hk i h
  obtain ⟨g1, g2, g3⟩ := dec_rng h0 h1 h
  have g4 := dec_imm h0 h1 h
  rw [ho] at g4 ⊢
  obtain ⟨op, d, a, b, imm⟩ := i
  obtain ⟨r, pc, vec, back, on, hdl⟩ := s
  exact tail_8 r pc vec back on hdl bd F w cyc d a b imm hs hbd g1 g2 g3 hdec _ _ _ rfl rfl rfl
theorem tl_9 {s : RegS} {bd : BoardS} {F : Option (Nat × Nat) → Own → World → Prop} {w : Int} (cyc : Int) (hs : RegOk s) (hbd : BdOk bd) (h0 : 0 ≤ w) (h1 : w < 4294967296) (hk : w / 67108864 = 9) (i : Ins) (h : decF w = some i) : TailF s bd F w cyc (execF i.op i.d i.a i.b i.imm s bd cyc) := by
  obtain ⟨ho, hdec⟩ := decis_9 h0 h1 hk i h
  obtain ⟨g1, g2, g3⟩ := dec_rng h0 h1 h
  have g4 := dec_imm h0 h1 h
  rw [ho] at g4 ⊢
  obtain ⟨op, d, a, b, imm⟩ := i
  obtain ⟨r, pc, vec, back, on, hdl⟩ := s
  exact tail_9 r pc vec back on hdl bd F w cyc d a b imm hs hbd g1 g2 g3 hdec _ _ _ rfl rfl rfl
theorem tl_10 {s : RegS} {bd : BoardS} {F : Option (Nat × Nat) → Own → World → Prop} {w : Int} (cyc : Int) (hs : RegOk s) (hbd : BdOk bd) (h0 : 0 ≤ w) (h1 : w < 4294967296) (hk : w / 67108864 = 10) (i : Ins) (h : decF w = some i) : TailF s bd F w cyc (execF i.op i.d i.a i.b i.imm s bd cyc) := by
  obtain ⟨ho, hdec⟩ := decis_10 h0 h1 hk i h
  obtain ⟨g1, g2, g3⟩ := dec_rng h0 h1 h
  have g4 := dec_imm h0 h1 h
  rw [ho] at g4 ⊢
  obtain ⟨op, d, a, b, imm⟩ := i
  obtain ⟨r, pc, vec, back, on, hdl⟩ := s
  exact tail_10 r pc vec back on hdl bd F w cyc d a b imm hs hbd g1 g2 g3 hdec _ _ _ rfl rfl rfl
theorem tl_11 {s : RegS} {bd : BoardS} {F : Option (Nat × Nat) → Own → World → Prop} {w : Int} (cyc : Int) (hs : RegOk s) (hbd : BdOk bd) (h0 : 0 ≤ w) (h1 : w < 4294967296) (hk : w / 67108864 = 11) (i : Ins) (h : decF w = some i) : TailF s bd F w cyc (execF i.op i.d i.a i.b i.imm s bd cyc) := by
  obtain ⟨ho, hdec⟩ := decis_11 h0 h1 hk i h
  obtain ⟨g1, g2, g3⟩ := dec_rng h0 h1 h
  have g4 := dec_imm h0 h1 h
  rw [ho] at g4 ⊢
  obtain ⟨op, d, a, b, imm⟩ := i
  obtain ⟨r, pc, vec, back, on, hdl⟩ := s
  exact tail_11 r pc vec back on hdl bd F w cyc d a b imm hs hbd g1 g2 g3 hdec _ _ _ rfl rfl rfl
theorem tl_12 {s : RegS} {bd : BoardS} {F : Option (Nat × Nat) → Own → World → Prop} {w : Int} (cyc : Int) (hs : RegOk s) (hbd : BdOk bd) (h0 : 0 ≤ w) (h1 : w < 4294967296) (hk : w / 67108864 = 12) (i : Ins) (h : decF w = some i) : TailF s bd F w cyc (execF i.op i.d i.a i.b i.imm s bd cyc) := by
  obtain ⟨ho, hdec⟩ := decis_12 h0 h1 hk i h
  obtain ⟨g1, g2, g3⟩ := dec_rng h0 h1 h
  have g4 := dec_imm h0 h1 h
  rw [ho] at g4 ⊢
  obtain ⟨op, d, a, b, imm⟩ := i
  obtain ⟨r, pc, vec, back, on, hdl⟩ := s
  exact tail_12 r pc vec back on hdl bd F w cyc d a b imm hs hbd g1 g2 g3 hdec _ _ _ rfl rfl rfl
theorem tl_13 {s : RegS} {bd : BoardS} {F : Option (Nat × Nat) → Own → World → Prop} {w : Int} (cyc : Int) (hs : RegOk s) (hbd : BdOk bd) (h0 : 0 ≤ w) (h1 : w < 4294967296) (hk : w / 67108864 = 13) (i : Ins) (h : decF w = some i) : TailF s bd F w cyc (execF i.op i.d i.a i.b i.imm s bd cyc) := by
  obtain ⟨ho, hdec⟩ := decis_13 h0 h1 hk i h
  obtain ⟨g1, g2, g3⟩ := dec_rng h0 h1 h
  have g4 := dec_imm h0 h1 h
  rw [ho] at g4 ⊢
  obtain ⟨op, d, a, b, imm⟩ := i
  obtain ⟨r, pc, vec, back, on, hdl⟩ := s
  exact tail_13 r pc vec back on hdl bd F w cyc d a b imm hs hbd g1 g2 g3 hdec _ _ _ rfl rfl rfl
theorem tl_14 {s : RegS} {bd : BoardS} {F : Option (Nat × Nat) → Own → World → Prop} {w : Int} (cyc : Int) (hs : RegOk s) (hbd : BdOk bd) (h0 : 0 ≤ w) (h1 : w < 4294967296) (hk : w / 67108864 = 14) (i : Ins) (h : decF w = some i) : TailF s bd F w cyc (execF i.op i.d i.a i.b i.imm s bd cyc) := by
  obtain ⟨ho, hdec⟩ := decis_14 h0 h1 hk i h
  obtain ⟨g1, g2, g3⟩ := dec_rng h0 h1 h
  have g4 := dec_imm h0 h1 h
  rw [ho] at g4 ⊢
  obtain ⟨op, d, a, b, imm⟩ := i
  obtain ⟨r, pc, vec, back, on, hdl⟩ := s
  exact tail_14 r pc vec back on hdl bd F w cyc d a b imm hs hbd g1 g2 g3 hdec _ _ _ rfl rfl rfl
theorem tl_15 {s : RegS} {bd : BoardS} {F : Option (Nat × Nat) → Own → World → Prop} {w : Int} (cyc : Int) (hs : RegOk s) (hbd : BdOk bd) (h0 : 0 ≤ w) (h1 : w < 4294967296) (hk : w / 67108864 = 15) (i : Ins) (h : decF w = some i) : TailF s bd F w cyc (execF i.op i.d i.a i.b i.imm s bd cyc) := by
  obtain ⟨ho, hdec⟩ := decis_15 h0 h1 hk i h
  obtain ⟨g1, g2, g3⟩ := dec_rng h0 h1 h
  have g4 := dec_imm h0 h1 h
  rw [ho] at g4 ⊢
  obtain ⟨op, d, a, b, imm⟩ := i
  obtain ⟨r, pc, vec, back, on, hdl⟩ := s
  exact tail_15 r pc vec back on hdl bd F w cyc d a b imm hs hbd g1 g2 g3 hdec _ _ _ rfl rfl rfl
theorem tl_16 {s : RegS} {bd : BoardS} {F : Option (Nat × Nat) → Own → World → Prop} {w : Int} (cyc : Int) (hs : RegOk s) (hbd : BdOk bd) (h0 : 0 ≤ w) (h1 : w < 4294967296) (hk : w / 67108864 = 16) (i : Ins) (h : decF w = some i) : TailF s bd F w cyc (execF i.op i.d i.a i.b i.imm s bd cyc) := by
  obtain ⟨ho, hdec⟩ := decis_16 h0 h1 hk i h
  obtain ⟨g1, g2, g3⟩ := dec_rng h0 h1 h
  have g4 := dec_imm h0 h1 h
  rw [ho] at g4 ⊢
  obtain ⟨op, d, a, b, imm⟩ := i
  obtain ⟨r, pc, vec, back, on, hdl⟩ := s
  exact tail_16 r pc vec back on hdl bd F w cyc d a b imm hs hbd g1 g2 g3 hdec _ _ _ rfl rfl rfl
theorem tl_17 {s : RegS} {bd : BoardS} {F : Option (Nat × Nat) → Own → World → Prop} {w : Int} (cyc : Int) (hs : RegOk s) (hbd : BdOk bd) (h0 : 0 ≤ w) (h1 : w < 4294967296) (hk : w / 67108864 = 17) (i : Ins) (h : decF w = some i) : TailF s bd F w cyc (execF i.op i.d i.a i.b i.imm s bd cyc) := by
  obtain ⟨ho, hdec⟩ := decis_17 h0 h1 hk i h
  obtain ⟨g1, g2, g3⟩ := dec_rng h0 h1 h
  have g4 := dec_imm h0 h1 h
  rw [ho] at g4 ⊢
  obtain ⟨op, d, a, b, imm⟩ := i
  obtain ⟨r, pc, vec, back, on, hdl⟩ := s
  exact tail_17 r pc vec back on hdl bd F w cyc d a b imm hs hbd g1 g2 g3 hdec _ _ _ rfl rfl rfl
theorem tl_18 {s : RegS} {bd : BoardS} {F : Option (Nat × Nat) → Own → World → Prop} {w : Int} (cyc : Int) (hs : RegOk s) (hbd : BdOk bd) (h0 : 0 ≤ w) (h1 : w < 4294967296) (hk : w / 67108864 = 18) (i : Ins) (h : decF w = some i) : TailF s bd F w cyc (execF i.op i.d i.a i.b i.imm s bd cyc) := by
  obtain ⟨ho, hdec⟩ := decis_18 h0 h1 hk i h
  obtain ⟨g1, g2, g3⟩ := dec_rng h0 h1 h
  have g4 := dec_imm h0 h1 h
  rw [ho] at g4 ⊢
  obtain ⟨op, d, a, b, imm⟩ := i
  obtain ⟨r, pc, vec, back, on, hdl⟩ := s
  exact tail_18 r pc vec back on hdl bd F w cyc d a b imm hs hbd g1 g2 g3 hdec _ _ _ rfl rfl rfl
theorem tl_19 {s : RegS} {bd : BoardS} {F : Option (Nat × Nat) → Own → World → Prop} {w : Int} (cyc : Int) (hs : RegOk s) (hbd : BdOk bd) (h0 : 0 ≤ w) (h1 : w < 4294967296) (hk : w / 67108864 = 19) (i : Ins) (h : decF w = some i) : TailF s bd F w cyc (execF i.op i.d i.a i.b i.imm s bd cyc) := by
  obtain ⟨ho, hdec⟩ := decis_19 h0 h1 hk i h
  obtain ⟨g1, g2, g3⟩ := dec_rng h0 h1 h
  have g4 := dec_imm h0 h1 h
  rw [ho] at g4 ⊢
  obtain ⟨op, d, a, b, imm⟩ := i
  obtain ⟨r, pc, vec, back, on, hdl⟩ := s
  exact tail_19 r pc vec back on hdl bd F w cyc d a b imm hs hbd g1 g2 g3 hdec _ _ _ rfl rfl rfl
theorem tl_20 {s : RegS} {bd : BoardS} {F : Option (Nat × Nat) → Own → World → Prop} {w : Int} (cyc : Int) (hs : RegOk s) (hbd : BdOk bd) (h0 : 0 ≤ w) (h1 : w < 4294967296) (hk : w / 67108864 = 20) (i : Ins) (h : decF w = some i) : TailF s bd F w cyc (execF i.op i.d i.a i.b i.imm s bd cyc) := by
  obtain ⟨ho, hdec⟩ := decis_20 h0 h1 hk i h
  obtain ⟨g1, g2, g3⟩ := dec_rng h0 h1 h
  have g4 := dec_imm h0 h1 h
  rw [ho] at g4 ⊢
  obtain ⟨op, d, a, b, imm⟩ := i
  obtain ⟨r, pc, vec, back, on, hdl⟩ := s
  exact tail_20 r pc vec back on hdl bd F w cyc d a b imm hs hbd g1 g2 g3 hdec _ _ _ rfl rfl rfl
theorem tl_21 {s : RegS} {bd : BoardS} {F : Option (Nat × Nat) → Own → World → Prop} {w : Int} (cyc : Int) (hs : RegOk s) (hbd : BdOk bd) (h0 : 0 ≤ w) (h1 : w < 4294967296) (hk : w / 67108864 = 21) (i : Ins) (h : decF w = some i) : TailF s bd F w cyc (execF i.op i.d i.a i.b i.imm s bd cyc) := by
  obtain ⟨ho, hdec⟩ := decis_21 h0 h1 hk i h
  obtain ⟨g1, g2, g3⟩ := dec_rng h0 h1 h
  have g4 := dec_imm h0 h1 h
  rw [ho] at g4 ⊢
  obtain ⟨op, d, a, b, imm⟩ := i
  obtain ⟨r, pc, vec, back, on, hdl⟩ := s
  exact tail_21 r pc vec back on hdl bd F w cyc d a b imm hs hbd g1 g2 g3 hdec _ _ _ rfl rfl rfl
theorem tl_22 {s : RegS} {bd : BoardS} {F : Option (Nat × Nat) → Own → World → Prop} {w : Int} (cyc : Int) (hs : RegOk s) (hbd : BdOk bd) (h0 : 0 ≤ w) (h1 : w < 4294967296) (hk : w / 67108864 = 22) (i : Ins) (h : decF w = some i) : TailF s bd F w cyc (execF i.op i.d i.a i.b i.imm s bd cyc) := by
  obtain ⟨ho, hdec⟩ := decis_22 h0 h1 hk i h
  obtain ⟨g1, g2, g3⟩ := dec_rng h0 h1 h
  have g4 := dec_imm h0 h1 h
  rw [ho] at g4 ⊢
  obtain ⟨op, d, a, b, imm⟩ := i
  obtain ⟨r, pc, vec, back, on, hdl⟩ := s
  exact tail_22 r pc vec back on hdl bd F w cyc d a b imm hs hbd g1 g2 g3 hdec _ _ _ rfl rfl rfl
theorem tl_23 {s : RegS} {bd : BoardS} {F : Option (Nat × Nat) → Own → World → Prop} {w : Int} (cyc : Int) (hs : RegOk s) (hbd : BdOk bd) (h0 : 0 ≤ w) (h1 : w < 4294967296) (hk : w / 67108864 = 23) (i : Ins) (h : decF w = some i) : TailF s bd F w cyc (execF i.op i.d i.a i.b i.imm s bd cyc) := by
  obtain ⟨ho, hdec⟩ := decis_23 h0 h1 hk i h
  obtain ⟨g1, g2, g3⟩ := dec_rng h0 h1 h
  have g4 := dec_imm h0 h1 h
  rw [ho] at g4 ⊢
  obtain ⟨op, d, a, b, imm⟩ := i
  obtain ⟨r, pc, vec, back, on, hdl⟩ := s
  exact tail_23 r pc vec back on hdl bd F w cyc d a b imm hs hbd g1 g2 g3 hdec _ _ _ rfl rfl rfl
theorem tl_24 {s : RegS} {bd : BoardS} {F : Option (Nat × Nat) → Own → World → Prop} {w : Int} (cyc : Int) (hs : RegOk s) (hbd : BdOk bd) (h0 : 0 ≤ w) (h1 : w < 4294967296) (hk : w / 67108864 = 24) (i : Ins) (h : decF w = some i) : TailF s bd F w cyc (execF i.op i.d i.a i.b i.imm s bd cyc) := by
  obtain ⟨ho, hdec⟩ := decis_24 h0 h1 hk i h
  obtain ⟨g1, g2, g3⟩ := dec_rng h0 h1 h
  have g4 := dec_imm h0 h1 h
  rw [ho] at g4 ⊢
  obtain ⟨op, d, a, b, imm⟩ := i
  obtain ⟨r, pc, vec, back, on, hdl⟩ := s
  by_cases hf : pick1 bd.faults bd.nf = 0
  · rw [show execF 24 d a b imm ⟨r, pc, vec, back, on, hdl⟩ bd cyc = (if pick1 bd.faults bd.nf = 0 then _ else _) from rfl, if_pos hf]
    exact tail_24 r pc vec back on hdl bd F w cyc d a b imm hs hbd g1 g2 g3 hf hdec _ _ _ _ _ _ _ _ _ rfl rfl rfl rfl rfl rfl rfl rfl rfl
  · rw [show execF 24 d a b imm ⟨r, pc, vec, back, on, hdl⟩ bd cyc = (if pick1 bd.faults bd.nf = 0 then _ else _) from rfl, if_neg hf]
    exact tail_24f r pc vec back on hdl bd F w cyc d a b imm hs hbd g1 g2 g3 hf hdec _ _ _ _ _ _ _ rfl rfl rfl rfl rfl rfl rfl
theorem tl_25 {s : RegS} {bd : BoardS} {F : Option (Nat × Nat) → Own → World → Prop} {w : Int} (cyc : Int) (hs : RegOk s) (hbd : BdOk bd) (h0 : 0 ≤ w) (h1 : w < 4294967296) (hk : w / 67108864 = 25) (i : Ins) (h : decF w = some i) : TailF s bd F w cyc (execF i.op i.d i.a i.b i.imm s bd cyc) := by
  obtain ⟨ho, hdec⟩ := decis_25 h0 h1 hk i h
  obtain ⟨g1, g2, g3⟩ := dec_rng h0 h1 h
  have g4 := dec_imm h0 h1 h
  rw [ho] at g4 ⊢
  obtain ⟨op, d, a, b, imm⟩ := i
  obtain ⟨r, pc, vec, back, on, hdl⟩ := s
  by_cases hf : pick1 bd.faults bd.nf = 0
  · rw [show execF 25 d a b imm ⟨r, pc, vec, back, on, hdl⟩ bd cyc = (if pick1 bd.faults bd.nf = 0 then _ else _) from rfl, if_pos hf]
    exact tail_25 r pc vec back on hdl bd F w cyc d a b imm hs hbd g1 g2 g3 hf hdec _ _ _ _ _ _ _ _ _ rfl rfl rfl rfl rfl rfl rfl rfl rfl
  · rw [show execF 25 d a b imm ⟨r, pc, vec, back, on, hdl⟩ bd cyc = (if pick1 bd.faults bd.nf = 0 then _ else _) from rfl, if_neg hf]
    exact tail_25f r pc vec back on hdl bd F w cyc d a b imm hs hbd g1 g2 g3 hf hdec _ _ _ _ _ _ _ rfl rfl rfl rfl rfl rfl rfl
theorem tl_26 {s : RegS} {bd : BoardS} {F : Option (Nat × Nat) → Own → World → Prop} {w : Int} (cyc : Int) (hs : RegOk s) (hbd : BdOk bd) (h0 : 0 ≤ w) (h1 : w < 4294967296) (hk : w / 67108864 = 26) (i : Ins) (h : decF w = some i) : TailF s bd F w cyc (execF i.op i.d i.a i.b i.imm s bd cyc) := by
  obtain ⟨ho, hdec⟩ := decis_26 h0 h1 hk i h
  obtain ⟨g1, g2, g3⟩ := dec_rng h0 h1 h
  have g4 := dec_imm h0 h1 h
  rw [ho] at g4 ⊢
  obtain ⟨op, d, a, b, imm⟩ := i
  obtain ⟨r, pc, vec, back, on, hdl⟩ := s
  by_cases hf : pick1 bd.faults bd.nf = 0
  · rw [show execF 26 d a b imm ⟨r, pc, vec, back, on, hdl⟩ bd cyc = (if pick1 bd.faults bd.nf = 0 then _ else _) from rfl, if_pos hf]
    exact tail_26 r pc vec back on hdl bd F w cyc d a b imm hs hbd g1 g2 g3 hf hdec _ _ _ _ _ _ _ _ _ rfl rfl rfl rfl rfl rfl rfl rfl rfl
  · rw [show execF 26 d a b imm ⟨r, pc, vec, back, on, hdl⟩ bd cyc = (if pick1 bd.faults bd.nf = 0 then _ else _) from rfl, if_neg hf]
    exact tail_26f r pc vec back on hdl bd F w cyc d a b imm hs hbd g1 g2 g3 hf hdec _ _ _ _ _ _ _ rfl rfl rfl rfl rfl rfl rfl
theorem tl_27 {s : RegS} {bd : BoardS} {F : Option (Nat × Nat) → Own → World → Prop} {w : Int} (cyc : Int) (hs : RegOk s) (hbd : BdOk bd) (h0 : 0 ≤ w) (h1 : w < 4294967296) (hk : w / 67108864 = 27) (i : Ins) (h : decF w = some i) : TailF s bd F w cyc (execF i.op i.d i.a i.b i.imm s bd cyc) := by
  obtain ⟨ho, hdec⟩ := decis_27 h0 h1 hk i h
  obtain ⟨g1, g2, g3⟩ := dec_rng h0 h1 h
  have g4 := dec_imm h0 h1 h
  rw [ho] at g4 ⊢
  obtain ⟨op, d, a, b, imm⟩ := i
  obtain ⟨r, pc, vec, back, on, hdl⟩ := s
  by_cases hf : pick1 bd.faults bd.nf = 0
  · rw [show execF 27 d a b imm ⟨r, pc, vec, back, on, hdl⟩ bd cyc = (if pick1 bd.faults bd.nf = 0 then _ else _) from rfl, if_pos hf]
    exact tail_27 r pc vec back on hdl bd F w cyc d a b imm hs hbd g1 g2 g3 hf hdec _ _ _ _ _ _ _ _ _ rfl rfl rfl rfl rfl rfl rfl rfl rfl
  · rw [show execF 27 d a b imm ⟨r, pc, vec, back, on, hdl⟩ bd cyc = (if pick1 bd.faults bd.nf = 0 then _ else _) from rfl, if_neg hf]
    exact tail_27f r pc vec back on hdl bd F w cyc d a b imm hs hbd g1 g2 g3 hf hdec _ _ _ _ _ _ _ rfl rfl rfl rfl rfl rfl rfl
theorem tl_28 {s : RegS} {bd : BoardS} {F : Option (Nat × Nat) → Own → World → Prop} {w : Int} (cyc : Int) (hs : RegOk s) (hbd : BdOk bd) (h0 : 0 ≤ w) (h1 : w < 4294967296) (hk : w / 67108864 = 28) (i : Ins) (h : decF w = some i) : TailF s bd F w cyc (execF i.op i.d i.a i.b i.imm s bd cyc) := by
  obtain ⟨ho, hdec⟩ := decis_28 h0 h1 hk i h
  obtain ⟨g1, g2, g3⟩ := dec_rng h0 h1 h
  have g4 := dec_imm h0 h1 h
  rw [ho] at g4 ⊢
  obtain ⟨op, d, a, b, imm⟩ := i
  obtain ⟨r, pc, vec, back, on, hdl⟩ := s
  by_cases hf : pick1 bd.faults bd.nf = 0
  · rw [show execF 28 d a b imm ⟨r, pc, vec, back, on, hdl⟩ bd cyc = (if pick1 bd.faults bd.nf = 0 then _ else _) from rfl, if_pos hf]
    exact tail_28 r pc vec back on hdl bd F w cyc d a b imm hs hbd g1 g2 g3 hf hdec _ _ _ _ _ _ _ _ _ rfl rfl rfl rfl rfl rfl rfl rfl rfl
  · rw [show execF 28 d a b imm ⟨r, pc, vec, back, on, hdl⟩ bd cyc = (if pick1 bd.faults bd.nf = 0 then _ else _) from rfl, if_neg hf]
    exact tail_28f r pc vec back on hdl bd F w cyc d a b imm hs hbd g1 g2 g3 hf hdec _ _ _ _ _ _ _ rfl rfl rfl rfl rfl rfl rfl
theorem tl_29 {s : RegS} {bd : BoardS} {F : Option (Nat × Nat) → Own → World → Prop} {w : Int} (cyc : Int) (hs : RegOk s) (hbd : BdOk bd) (h0 : 0 ≤ w) (h1 : w < 4294967296) (hk : w / 67108864 = 29) (i : Ins) (h : decF w = some i) : TailF s bd F w cyc (execF i.op i.d i.a i.b i.imm s bd cyc) := by
  obtain ⟨ho, hdec⟩ := decis_29 h0 h1 hk i h
  obtain ⟨g1, g2, g3⟩ := dec_rng h0 h1 h
  have g4 := dec_imm h0 h1 h
  rw [ho] at g4 ⊢
  obtain ⟨op, d, a, b, imm⟩ := i
  obtain ⟨r, pc, vec, back, on, hdl⟩ := s
  by_cases hf : pick1 bd.faults bd.nf = 0
  · rw [show execF 29 d a b imm ⟨r, pc, vec, back, on, hdl⟩ bd cyc = (if pick1 bd.faults bd.nf = 0 then _ else _) from rfl, if_pos hf]
    exact tail_29 r pc vec back on hdl bd F w cyc d a b imm hs hbd g1 g2 g3 hf hdec _ _ _ _ _ _ _ rfl rfl rfl rfl rfl rfl rfl
  · rw [show execF 29 d a b imm ⟨r, pc, vec, back, on, hdl⟩ bd cyc = (if pick1 bd.faults bd.nf = 0 then _ else _) from rfl, if_neg hf]
    exact tail_29f r pc vec back on hdl bd F w cyc d a b imm hs hbd g1 g2 g3 hf hdec _ _ _ _ _ _ rfl rfl rfl rfl rfl rfl
theorem tl_30 {s : RegS} {bd : BoardS} {F : Option (Nat × Nat) → Own → World → Prop} {w : Int} (cyc : Int) (hs : RegOk s) (hbd : BdOk bd) (h0 : 0 ≤ w) (h1 : w < 4294967296) (hk : w / 67108864 = 30) (i : Ins) (h : decF w = some i) : TailF s bd F w cyc (execF i.op i.d i.a i.b i.imm s bd cyc) := by
  obtain ⟨ho, hdec⟩ := decis_30 h0 h1 hk i h
  obtain ⟨g1, g2, g3⟩ := dec_rng h0 h1 h
  have g4 := dec_imm h0 h1 h
  rw [ho] at g4 ⊢
  obtain ⟨op, d, a, b, imm⟩ := i
  obtain ⟨r, pc, vec, back, on, hdl⟩ := s
  by_cases hf : pick1 bd.faults bd.nf = 0
  · rw [show execF 30 d a b imm ⟨r, pc, vec, back, on, hdl⟩ bd cyc = (if pick1 bd.faults bd.nf = 0 then _ else _) from rfl, if_pos hf]
    exact tail_30 r pc vec back on hdl bd F w cyc d a b imm hs hbd g1 g2 g3 hf hdec _ _ _ _ _ _ _ rfl rfl rfl rfl rfl rfl rfl
  · rw [show execF 30 d a b imm ⟨r, pc, vec, back, on, hdl⟩ bd cyc = (if pick1 bd.faults bd.nf = 0 then _ else _) from rfl, if_neg hf]
    exact tail_30f r pc vec back on hdl bd F w cyc d a b imm hs hbd g1 g2 g3 hf hdec _ _ _ _ _ _ rfl rfl rfl rfl rfl rfl
theorem tl_31 {s : RegS} {bd : BoardS} {F : Option (Nat × Nat) → Own → World → Prop} {w : Int} (cyc : Int) (hs : RegOk s) (hbd : BdOk bd) (h0 : 0 ≤ w) (h1 : w < 4294967296) (hk : w / 67108864 = 31) (i : Ins) (h : decF w = some i) : TailF s bd F w cyc (execF i.op i.d i.a i.b i.imm s bd cyc) := by
  obtain ⟨ho, hdec⟩ := decis_31 h0 h1 hk i h
  obtain ⟨g1, g2, g3⟩ := dec_rng h0 h1 h
  have g4 := dec_imm h0 h1 h
  rw [ho] at g4 ⊢
  obtain ⟨op, d, a, b, imm⟩ := i
  obtain ⟨r, pc, vec, back, on, hdl⟩ := s
  by_cases hf : pick1 bd.faults bd.nf = 0
  · rw [show execF 31 d a b imm ⟨r, pc, vec, back, on, hdl⟩ bd cyc = (if pick1 bd.faults bd.nf = 0 then _ else _) from rfl, if_pos hf]
    exact tail_31 r pc vec back on hdl bd F w cyc d a b imm hs hbd g1 g2 g3 hf hdec _ _ _ _ _ _ _ rfl rfl rfl rfl rfl rfl rfl
  · rw [show execF 31 d a b imm ⟨r, pc, vec, back, on, hdl⟩ bd cyc = (if pick1 bd.faults bd.nf = 0 then _ else _) from rfl, if_neg hf]
    exact tail_31f r pc vec back on hdl bd F w cyc d a b imm hs hbd g1 g2 g3 hf hdec _ _ _ _ _ _ rfl rfl rfl rfl rfl rfl
theorem tl_32 {s : RegS} {bd : BoardS} {F : Option (Nat × Nat) → Own → World → Prop} {w : Int} (cyc : Int) (hs : RegOk s) (hbd : BdOk bd) (h0 : 0 ≤ w) (h1 : w < 4294967296) (hk : w / 67108864 = 32) (i : Ins) (h : decF w = some i) : TailF s bd F w cyc (execF i.op i.d i.a i.b i.imm s bd cyc) := by
  obtain ⟨ho, hdec⟩ := decis_32 h0 h1 hk i h
  obtain ⟨g1, g2, g3⟩ := dec_rng h0 h1 h
  have g4 := dec_imm h0 h1 h
  rw [ho] at g4 ⊢
  obtain ⟨op, d, a, b, imm⟩ := i
  obtain ⟨r, pc, vec, back, on, hdl⟩ := s
  exact tail_32 r pc vec back on hdl bd F w cyc d a b imm hs hbd g1 g2 g3 hdec _ _ rfl rfl
theorem tl_33 {s : RegS} {bd : BoardS} {F : Option (Nat × Nat) → Own → World → Prop} {w : Int} (cyc : Int) (hs : RegOk s) (hbd : BdOk bd) (h0 : 0 ≤ w) (h1 : w < 4294967296) (hk : w / 67108864 = 33) (i : Ins) (h : decF w = some i) : TailF s bd F w cyc (execF i.op i.d i.a i.b i.imm s bd cyc) := by
  obtain ⟨ho, hdec⟩ := decis_33 h0 h1 hk i h
  obtain ⟨g1, g2, g3⟩ := dec_rng h0 h1 h
  have g4 := dec_imm h0 h1 h
  rw [ho] at g4 ⊢
  obtain ⟨op, d, a, b, imm⟩ := i
  obtain ⟨r, pc, vec, back, on, hdl⟩ := s
  exact tail_33 r pc vec back on hdl bd F w cyc d a b imm hs hbd g1 g2 g3 hdec _ _ rfl rfl
theorem tl_34 {s : RegS} {bd : BoardS} {F : Option (Nat × Nat) → Own → World → Prop} {w : Int} (cyc : Int) (hs : RegOk s) (hbd : BdOk bd) (h0 : 0 ≤ w) (h1 : w < 4294967296) (hk : w / 67108864 = 34) (i : Ins) (h : decF w = some i) : TailF s bd F w cyc (execF i.op i.d i.a i.b i.imm s bd cyc) := by
  obtain ⟨ho, hdec⟩ := decis_34 h0 h1 hk i h
  obtain ⟨g1, g2, g3⟩ := dec_rng h0 h1 h
  have g4 := dec_imm h0 h1 h
  rw [ho] at g4 ⊢
  obtain ⟨op, d, a, b, imm⟩ := i
  obtain ⟨r, pc, vec, back, on, hdl⟩ := s
  exact tail_34 r pc vec back on hdl bd F w cyc d a b imm hs hbd g1 g2 g3 hdec _ _ rfl rfl
theorem tl_35 {s : RegS} {bd : BoardS} {F : Option (Nat × Nat) → Own → World → Prop} {w : Int} (cyc : Int) (hs : RegOk s) (hbd : BdOk bd) (h0 : 0 ≤ w) (h1 : w < 4294967296) (hk : w / 67108864 = 35) (i : Ins) (h : decF w = some i) : TailF s bd F w cyc (execF i.op i.d i.a i.b i.imm s bd cyc) := by
  obtain ⟨ho, hdec⟩ := decis_35 h0 h1 hk i h
  obtain ⟨g1, g2, g3⟩ := dec_rng h0 h1 h
  have g4 := dec_imm h0 h1 h
  rw [ho] at g4 ⊢
  obtain ⟨op, d, a, b, imm⟩ := i
  obtain ⟨r, pc, vec, back, on, hdl⟩ := s
  exact tail_35 r pc vec back on hdl bd F w cyc d a b imm hs hbd g1 g2 g3 hdec _ _ rfl rfl
theorem tl_36 {s : RegS} {bd : BoardS} {F : Option (Nat × Nat) → Own → World → Prop} {w : Int} (cyc : Int) (hs : RegOk s) (hbd : BdOk bd) (h0 : 0 ≤ w) (h1 : w < 4294967296) (hk : w / 67108864 = 36) (i : Ins) (h : decF w = some i) : TailF s bd F w cyc (execF i.op i.d i.a i.b i.imm s bd cyc) := by
  obtain ⟨ho, hdec⟩ := decis_36 h0 h1 hk i h
  obtain ⟨g1, g2, g3⟩ := dec_rng h0 h1 h
  have g4 := dec_imm h0 h1 h
  rw [ho] at g4 ⊢
  obtain ⟨op, d, a, b, imm⟩ := i
  obtain ⟨r, pc, vec, back, on, hdl⟩ := s
  exact tail_36 r pc vec back on hdl bd F w cyc d a b imm hs hbd g1 g2 g3 hdec _ _ rfl rfl
theorem tl_37 {s : RegS} {bd : BoardS} {F : Option (Nat × Nat) → Own → World → Prop} {w : Int} (cyc : Int) (hs : RegOk s) (hbd : BdOk bd) (h0 : 0 ≤ w) (h1 : w < 4294967296) (hk : w / 67108864 = 37) (i : Ins) (h : decF w = some i) : TailF s bd F w cyc (execF i.op i.d i.a i.b i.imm s bd cyc) := by
  obtain ⟨ho, hdec⟩ := decis_37 h0 h1 hk i h
  obtain ⟨g1, g2, g3⟩ := dec_rng h0 h1 h
  have g4 := dec_imm h0 h1 h
  rw [ho] at g4 ⊢
  obtain ⟨op, d, a, b, imm⟩ := i
  obtain ⟨r, pc, vec, back, on, hdl⟩ := s
  exact tail_37 r pc vec back on hdl bd F w cyc d a b imm hs hbd g1 g2 g3 hdec _ _ rfl rfl
theorem tl_38 {s : RegS} {bd : BoardS} {F : Option (Nat × Nat) → Own → World → Prop} {w : Int} (cyc : Int) (hs : RegOk s) (hbd : BdOk bd) (h0 : 0 ≤ w) (h1 : w < 4294967296) (hk : w / 67108864 = 38) (i : Ins) (h : decF w = some i) : TailF s bd F w cyc (execF i.op i.d i.a i.b i.imm s bd cyc) := by
  obtain ⟨ho, hdec⟩ := decis_38 h0 h1 hk i h
  obtain ⟨g1, g2, g3⟩ := dec_rng h0 h1 h
  have g4 := dec_imm h0 h1 h
  rw [ho] at g4 ⊢
  obtain ⟨op, d, a, b, imm⟩ := i
  obtain ⟨r, pc, vec, back, on, hdl⟩ := s
  exact tail_38 r pc vec back on hdl bd F w cyc d a b imm hs hbd g1 g2 g3 hdec _ _ _ rfl rfl rfl
theorem tl_39 {s : RegS} {bd : BoardS} {F : Option (Nat × Nat) → Own → World → Prop} {w : Int} (cyc : Int) (hs : RegOk s) (hbd : BdOk bd) (h0 : 0 ≤ w) (h1 : w < 4294967296) (hk : w / 67108864 = 39) (i : Ins) (h : decF w = some i) : TailF s bd F w cyc (execF i.op i.d i.a i.b i.imm s bd cyc) := by
  obtain ⟨ho, hdec⟩ := decis_39 h0 h1 hk i h
  obtain ⟨g1, g2, g3⟩ := dec_rng h0 h1 h
  have g4 := dec_imm h0 h1 h
  rw [ho] at g4 ⊢
  obtain ⟨op, d, a, b, imm⟩ := i
  obtain ⟨r, pc, vec, back, on, hdl⟩ := s
  exact tail_39 r pc vec back on hdl bd F w cyc d a b imm hs hbd g1 g2 g3 hdec _ _ _ rfl rfl rfl
theorem tl_40 {s : RegS} {bd : BoardS} {F : Option (Nat × Nat) → Own → World → Prop} {w : Int} (cyc : Int) (hs : RegOk s) (hbd : BdOk bd) (h0 : 0 ≤ w) (h1 : w < 4294967296) (hk : w / 67108864 = 40) (i : Ins) (h : decF w = some i) : TailF s bd F w cyc (execF i.op i.d i.a i.b i.imm s bd cyc) := by
  obtain ⟨ho, hdec⟩ := decis_40 h0 h1 hk i h
  obtain ⟨g1, g2, g3⟩ := dec_rng h0 h1 h
  have g4 := dec_imm h0 h1 h
  rw [ho] at g4 ⊢
  obtain ⟨op, d, a, b, imm⟩ := i
  obtain ⟨r, pc, vec, back, on, hdl⟩ := s
  exact tail_40 r pc vec back on hdl bd F w cyc d a b imm hs hbd g1 g2 g3 (g4 rfl) hdec _ _ rfl rfl
theorem tl_41 {s : RegS} {bd : BoardS} {F : Option (Nat × Nat) → Own → World → Prop} {w : Int} (cyc : Int) (hs : RegOk s) (hbd : BdOk bd) (h0 : 0 ≤ w) (h1 : w < 4294967296) (hk : w / 67108864 = 41) (i : Ins) (h : decF w = some i) : TailF s bd F w cyc (execF i.op i.d i.a i.b i.imm s bd cyc) := by
  obtain ⟨ho, hdec⟩ := decis_41 h0 h1 hk i h
  obtain ⟨g1, g2, g3⟩ := dec_rng h0 h1 h
  have g4 := dec_imm h0 h1 h
  rw [ho] at g4 ⊢
  obtain ⟨op, d, a, b, imm⟩ := i
  obtain ⟨r, pc, vec, back, on, hdl⟩ := s
  exact tail_41 r pc vec back on hdl bd F w cyc d a b imm hs hbd g1 g2 g3 hdec _ _ _ _ _ rfl rfl rfl rfl rfl
theorem tl_42 {s : RegS} {bd : BoardS} {F : Option (Nat × Nat) → Own → World → Prop} {w : Int} (cyc : Int) (hs : RegOk s) (hbd : BdOk bd) (h0 : 0 ≤ w) (h1 : w < 4294967296) (hk : w / 67108864 = 42) (i : Ins) (h : decF w = some i) : TailF s bd F w cyc (execF i.op i.d i.a i.b i.imm s bd cyc) := by
  obtain ⟨ho, hdec⟩ := decis_42 h0 h1 hk i h
  obtain ⟨g1, g2, g3⟩ := dec_rng h0 h1 h
  have g4 := dec_imm h0 h1 h
  rw [ho] at g4 ⊢
  obtain ⟨op, d, a, b, imm⟩ := i
  obtain ⟨r, pc, vec, back, on, hdl⟩ := s
  exact tail_42 r pc vec back on hdl bd F w cyc d a b imm hs hbd g1 g2 g3 hdec _ _ rfl rfl
theorem tl_43 {s : RegS} {bd : BoardS} {F : Option (Nat × Nat) → Own → World → Prop} {w : Int} (cyc : Int) (hs : RegOk s) (hbd : BdOk bd) (h0 : 0 ≤ w) (h1 : w < 4294967296) (hk : w / 67108864 = 43) (i : Ins) (h : decF w = some i) : TailF s bd F w cyc (execF i.op i.d i.a i.b i.imm s bd cyc) := by
  obtain ⟨ho, hdec⟩ := decis_43 h0 h1 hk i h
  obtain ⟨g1, g2, g3⟩ := dec_rng h0 h1 h
  have g4 := dec_imm h0 h1 h
  rw [ho] at g4 ⊢
  obtain ⟨op, d, a, b, imm⟩ := i
  obtain ⟨r, pc, vec, back, on, hdl⟩ := s
  exact tail_43 r pc vec back on hdl bd F w cyc d a b imm hs hbd g1 g2 g3 hdec _ _ rfl rfl
theorem tl_44 {s : RegS} {bd : BoardS} {F : Option (Nat × Nat) → Own → World → Prop} {w : Int} (cyc : Int) (hs : RegOk s) (hbd : BdOk bd) (h0 : 0 ≤ w) (h1 : w < 4294967296) (hk : w / 67108864 = 44) (i : Ins) (h : decF w = some i) : TailF s bd F w cyc (execF i.op i.d i.a i.b i.imm s bd cyc) := by
  obtain ⟨ho, hdec⟩ := decis_44 h0 h1 hk i h
  obtain ⟨g1, g2, g3⟩ := dec_rng h0 h1 h
  have g4 := dec_imm h0 h1 h
  rw [ho] at g4 ⊢
  obtain ⟨op, d, a, b, imm⟩ := i
  obtain ⟨r, pc, vec, back, on, hdl⟩ := s
  exact tail_44 r pc vec back on hdl bd F w cyc d a b imm hs hbd g1 g2 g3 hdec _ _ rfl rfl
theorem tl_45 {s : RegS} {bd : BoardS} {F : Option (Nat × Nat) → Own → World → Prop} {w : Int} (cyc : Int) (hs : RegOk s) (hbd : BdOk bd) (h0 : 0 ≤ w) (h1 : w < 4294967296) (hk : w / 67108864 = 45) (i : Ins) (h : decF w = some i) : TailF s bd F w cyc (execF i.op i.d i.a i.b i.imm s bd cyc) := by
  obtain ⟨ho, hdec⟩ := decis_45 h0 h1 hk i h
  obtain ⟨g1, g2, g3⟩ := dec_rng h0 h1 h
  have g4 := dec_imm h0 h1 h
  rw [ho] at g4 ⊢
  obtain ⟨op, d, a, b, imm⟩ := i
  obtain ⟨r, pc, vec, back, on, hdl⟩ := s
  cases hdl
  · exact tail_45n r pc vec back on false bd F w cyc d a b imm hs hbd g1 g2 g3 rfl hdec _ rfl
  · exact tail_45 r pc vec back on true bd F w cyc d a b imm hs hbd g1 g2 g3 rfl hdec _ rfl
theorem tl_46 {s : RegS} {bd : BoardS} {F : Option (Nat × Nat) → Own → World → Prop} {w : Int} (cyc : Int) (hs : RegOk s) (hbd : BdOk bd) (h0 : 0 ≤ w) (h1 : w < 4294967296) (hk : w / 67108864 = 46) (i : Ins) (h : decF w = some i) : TailF s bd F w cyc (execF i.op i.d i.a i.b i.imm s bd cyc) := by
  obtain ⟨ho, hdec⟩ := decis_46 h0 h1 hk i h
  obtain ⟨g1, g2, g3⟩ := dec_rng h0 h1 h
  have g4 := dec_imm h0 h1 h
  rw [ho] at g4 ⊢
  obtain ⟨op, d, a, b, imm⟩ := i
  obtain ⟨r, pc, vec, back, on, hdl⟩ := s
  exact tail_46 r pc vec back on hdl bd F w cyc d a b imm hs hbd g1 g2 g3 hdec _ _ _ rfl rfl rfl
theorem tl_47 {s : RegS} {bd : BoardS} {F : Option (Nat × Nat) → Own → World → Prop} {w : Int} (cyc : Int) (hs : RegOk s) (hbd : BdOk bd) (h0 : 0 ≤ w) (h1 : w < 4294967296) (hk : w / 67108864 = 47) (i : Ins) (h : decF w = some i) : TailF s bd F w cyc (execF i.op i.d i.a i.b i.imm s bd cyc) := by
  obtain ⟨ho, hdec⟩ := decis_47 h0 h1 hk i h
  obtain ⟨g1, g2, g3⟩ := dec_rng h0 h1 h
  have g4 := dec_imm h0 h1 h
  rw [ho] at g4 ⊢
  obtain ⟨op, d, a, b, imm⟩ := i
  obtain ⟨r, pc, vec, back, on, hdl⟩ := s
  exact tail_47 r pc vec back on hdl bd F w cyc d a b imm hs hbd g1 g2 g3 hdec _ rfl
theorem tl_48 {s : RegS} {bd : BoardS} {F : Option (Nat × Nat) → Own → World → Prop} {w : Int} (cyc : Int) (hs : RegOk s) (hbd : BdOk bd) (h0 : 0 ≤ w) (h1 : w < 4294967296) (hk : w / 67108864 = 48) (i : Ins) (h : decF w = some i) : TailF s bd F w cyc (execF i.op i.d i.a i.b i.imm s bd cyc) := by
  obtain ⟨ho, hdec⟩ := decis_48 h0 h1 hk i h
  obtain ⟨g1, g2, g3⟩ := dec_rng h0 h1 h
  have g4 := dec_imm h0 h1 h
  rw [ho] at g4 ⊢
  obtain ⟨op, d, a, b, imm⟩ := i
  obtain ⟨r, pc, vec, back, on, hdl⟩ := s
  exact tail_48 r pc vec back on hdl bd F w cyc d a b imm hs hbd g1 g2 g3 hdec _ _ rfl rfl
theorem tail_all {s : RegS} {bd : BoardS} {F : Option (Nat × Nat) → Own → World → Prop} {w : Int} (cyc : Int) (hs : RegOk s) (hbd : BdOk bd) (h0 : 0 ≤ w) (h1 : w < 4294967296) (i : Ins) (h : decF w = some i) : TailF s bd F w cyc (execF i.op i.d i.a i.b i.imm s bd cyc) := by
  rcases k_cases h0 h1 with hk | hk | hk | hk | hk | hk | hk | hk | hk | hk | hk | hk | hk | hk | hk | hk | hk | hk | hk | hk | hk | hk | hk | hk | hk | hk | hk | hk | hk | hk | hk | hk | hk | hk | hk | hk | hk | hk | hk | hk | hk | hk | hk | hk | hk | hk | hk | hk | hk
  · exfalso
    have : formF (w / 67108864).toNat = 0 := by
      have e : (w / 67108864).toNat = 0 ∨ 49 ≤ (w / 67108864).toNat := by omega
      rcases e with e | e
      · rw [e]; rfl
      · obtain ⟨m, hm⟩ := Nat.exists_eq_add_of_le e
        rw [hm, Nat.add_comm]; rfl
    unfold decF at h; simp only [this] at h; cases h
  · exact tl_1 cyc hs hbd h0 h1 hk i h
  · exact tl_2 cyc hs hbd h0 h1 hk i h
  · exact tl_3 cyc hs hbd h0 h1 hk i h
  · exact tl_4 cyc hs hbd h0 h1 hk i h
  · exact tl_5 cyc hs hbd h0 h1 hk i h
  · exact tl_6 cyc hs hbd h0 h1 hk i h
  · exact tl_7 cyc hs hbd h0 h1 hk i h
  · exact tl_8 cyc hs hbd h0 h1 hk i h
  · exact tl_9 cyc hs hbd h0 h1 hk i h
  · exact tl_10 cyc hs hbd h0 h1 hk i h
  · exact tl_11 cyc hs hbd h0 h1 hk i h
  · exact tl_12 cyc hs hbd h0 h1 hk i h
  · exact tl_13 cyc hs hbd h0 h1 hk i h
  · exact tl_14 cyc hs hbd h0 h1 hk i h
  · exact tl_15 cyc hs hbd h0 h1 hk i h
  · exact tl_16 cyc hs hbd h0 h1 hk i h
  · exact tl_17 cyc hs hbd h0 h1 hk i h
  · exact tl_18 cyc hs hbd h0 h1 hk i h
  · exact tl_19 cyc hs hbd h0 h1 hk i h
  · exact tl_20 cyc hs hbd h0 h1 hk i h
  · exact tl_21 cyc hs hbd h0 h1 hk i h
  · exact tl_22 cyc hs hbd h0 h1 hk i h
  · exact tl_23 cyc hs hbd h0 h1 hk i h
  · exact tl_24 cyc hs hbd h0 h1 hk i h
  · exact tl_25 cyc hs hbd h0 h1 hk i h
  · exact tl_26 cyc hs hbd h0 h1 hk i h
  · exact tl_27 cyc hs hbd h0 h1 hk i h
  · exact tl_28 cyc hs hbd h0 h1 hk i h
  · exact tl_29 cyc hs hbd h0 h1 hk i h
  · exact tl_30 cyc hs hbd h0 h1 hk i h
  · exact tl_31 cyc hs hbd h0 h1 hk i h
  · exact tl_32 cyc hs hbd h0 h1 hk i h
  · exact tl_33 cyc hs hbd h0 h1 hk i h
  · exact tl_34 cyc hs hbd h0 h1 hk i h
  · exact tl_35 cyc hs hbd h0 h1 hk i h
  · exact tl_36 cyc hs hbd h0 h1 hk i h
  · exact tl_37 cyc hs hbd h0 h1 hk i h
  · exact tl_38 cyc hs hbd h0 h1 hk i h
  · exact tl_39 cyc hs hbd h0 h1 hk i h
  · exact tl_40 cyc hs hbd h0 h1 hk i h
  · exact tl_41 cyc hs hbd h0 h1 hk i h
  · exact tl_42 cyc hs hbd h0 h1 hk i h
  · exact tl_43 cyc hs hbd h0 h1 hk i h
  · exact tl_44 cyc hs hbd h0 h1 hk i h
  · exact tl_45 cyc hs hbd h0 h1 hk i h
  · exact tl_46 cyc hs hbd h0 h1 hk i h
  · exact tl_47 cyc hs hbd h0 h1 hk i h
  · exact tl_48 cyc hs hbd h0 h1 hk i h
end Go.Proofs.YtkljgpepogkgdaaDoor
