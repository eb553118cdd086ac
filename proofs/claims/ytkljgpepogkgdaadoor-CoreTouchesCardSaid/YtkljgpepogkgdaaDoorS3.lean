/-
  core.Step's tail, for every word.
-/
import Derived.Test.YtkljgpepogkgdaaDoorSA
import Derived.Test.YtkljgpepogkgdaaDoorSB
import Derived.Test.YtkljgpepogkgdaaDoorSC
import Derived.Test.YtkljgpepogkgdaaDoorSD
set_option linter.unusedVariables false
set_option linter.unusedSimpArgs false
namespace Go.Proofs.YtkljgpepogkgdaaDoor
open Go Go.Vex
set_option maxRecDepth 20000
set_option maxHeartbeats 4000000
def x22 (w : Int) : Int := w / 4194304 % 16
def x18 (w : Int) : Int := w / 262144 % 16
def x14 (w : Int) : Int := w / 16384 % 16
def s18 (w : Int) : Int := if 131072 ≤ w % 262144 then w % 262144 - 262144 else w % 262144
def s22 (w : Int) : Int := if 2097152 ≤ w % 4194304 then w % 4194304 - 4194304 else w % 4194304
structure Ins where
  op : Nat
  d : Int
  a : Int
  b : Int
  imm : Int
def formF (k : Nat) : Nat :=
  match k with
  | 1 => 1
  | 2 => 1
  | 3 => 1
  | 4 => 1
  | 5 => 1
  | 6 => 1
  | 7 => 1
  | 8 => 1
  | 9 => 1
  | 10 => 1
  | 11 => 1
  | 12 => 1
  | 13 => 1
  | 14 => 2
  | 15 => 3
  | 16 => 3
  | 17 => 3
  | 18 => 4
  | 19 => 4
  | 20 => 4
  | 21 => 2
  | 22 => 2
  | 23 => 7
  | 24 => 2
  | 25 => 2
  | 26 => 2
  | 27 => 2
  | 28 => 2
  | 29 => 5
  | 30 => 5
  | 31 => 5
  | 32 => 5
  | 33 => 5
  | 34 => 5
  | 35 => 5
  | 36 => 5
  | 37 => 5
  | 38 => 6
  | 39 => 2
  | 40 => 10
  | 41 => 8
  | 42 => 11
  | 43 => 11
  | 44 => 11
  | 45 => 11
  | 46 => 9
  | 47 => 11
  | 48 => 11
  | _ => 0
/-- An instruction, of a word. -/
def decF (w : Int) : Option Ins :=
  let k := (w / 67108864).toNat
  match formF k with
  | 1 => if w % 16384 = 0 then some ⟨k, x22 w, x18 w, x14 w, 0⟩ else none
  | 2 => some ⟨k, x22 w, x18 w, 0, s18 w⟩
  | 3 => some ⟨k, x22 w, x18 w, 0, w % 262144⟩
  | 4 => if w % 262144 ≤ 31 then some ⟨k, x22 w, x18 w, 0, w % 262144⟩ else none
  | 5 => some ⟨k, 0, x22 w, x18 w, s18 w⟩
  | 6 => some ⟨k, x22 w, 0, 0, s22 w⟩
  | 7 => if w % 4194304 < 262144 then some ⟨k, x22 w, 0, 0, w % 4194304⟩ else none
  | 8 => if w % 4194304 = 0 then some ⟨k, x22 w, 0, 0, 0⟩ else none
  | 9 => if w % 4194304 = 0 then some ⟨k, 0, x22 w, 0, 0⟩ else none
  | 10 => if w % 67108864 < 262144 then some ⟨k, 0, 0, 0, w % 67108864⟩ else none
  | 11 => if w % 67108864 = 0 then some ⟨k, 0, 0, 0, 0⟩ else none
  | _ => none
abbrev DecBad (w : Int) : Prop := ∃ e : Int, e ≠ 0 ∧ (e = 100 ∨ e = 102 ∨ e = 103) ∧ Spec1 kit 21 [.i .u32 (.ex w)] [.glob 0 layoutsL] false (.tup [.agg [.i .i64 (.lit 0), .i .u8 (.lit 0), .i .u8 (.lit 0), .i .u8 (.lit 0), .i .i32 (.lit 0)], .i .i64 (.lit e)]) [.glob 0 layoutsL] []
theorem decis_1 {w : Int} (h0 : 0 ≤ w) (h1 : w < 4294967296) (hk : w / 67108864 = 1) (i : Ins) (h : decF w = some i) : i.op = 1 ∧ DecIs w 1 i.d i.a i.b i.imm := by
  have e : (w / 67108864).toNat = 1 := by omega
  unfold decF at h; rw [e] at h
  simp only [formF] at h
  split at h
  · rename_i hv; cases h; exact ⟨rfl, dec_dab w (.lit 1) ⟨#[97, 100, 100]⟩ 0 of_1 h0 h1 (by show (1 : Int) = _; omega) hv⟩
  · cases h
theorem decbad_1 {w : Int} (h0 : 0 ≤ w) (h1 : w < 4294967296) (hk : w / 67108864 = 1) (h : decF w = none) : DecBad w := by
  have e : (w / 67108864).toNat = 1 := by omega
  unfold decF at h; rw [e] at h
  simp only [formF] at h
  split at h
  · cases h
  · rename_i hv; exact ⟨_, by decide, by decide, dec_dab_bad w (.lit 1) ⟨#[97, 100, 100]⟩ 0 of_1 h0 h1 (by show (1 : Int) = _; omega) (by omega)⟩
theorem decis_2 {w : Int} (h0 : 0 ≤ w) (h1 : w < 4294967296) (hk : w / 67108864 = 2) (i : Ins) (h : decF w = some i) : i.op = 2 ∧ DecIs w 2 i.d i.a i.b i.imm := by
  have e : (w / 67108864).toNat = 2 := by omega
  unfold decF at h; rw [e] at h
  simp only [formF] at h
  split at h
  · rename_i hv; cases h; exact ⟨rfl, dec_dab w (.lit 2) ⟨#[115, 117, 98]⟩ 0 of_2 h0 h1 (by show (2 : Int) = _; omega) hv⟩
  · cases h
theorem decbad_2 {w : Int} (h0 : 0 ≤ w) (h1 : w < 4294967296) (hk : w / 67108864 = 2) (h : decF w = none) : DecBad w := by
  have e : (w / 67108864).toNat = 2 := by omega
  unfold decF at h; rw [e] at h
  simp only [formF] at h
  split at h
  · cases h
  · rename_i hv; exact ⟨_, by decide, by decide, dec_dab_bad w (.lit 2) ⟨#[115, 117, 98]⟩ 0 of_2 h0 h1 (by show (2 : Int) = _; omega) (by omega)⟩
theorem decis_3 {w : Int} (h0 : 0 ≤ w) (h1 : w < 4294967296) (hk : w / 67108864 = 3) (i : Ins) (h : decF w = some i) : i.op = 3 ∧ DecIs w 3 i.d i.a i.b i.imm := by
  have e : (w / 67108864).toNat = 3 := by omega
  unfold decF at h; rw [e] at h
  simp only [formF] at h
  split at h
  · rename_i hv; cases h; exact ⟨rfl, dec_dab w (.lit 3) ⟨#[109, 117, 108]⟩ 0 of_3 h0 h1 (by show (3 : Int) = _; omega) hv⟩
  · cases h
theorem decbad_3 {w : Int} (h0 : 0 ≤ w) (h1 : w < 4294967296) (hk : w / 67108864 = 3) (h : decF w = none) : DecBad w := by
  have e : (w / 67108864).toNat = 3 := by omega
  unfold decF at h; rw [e] at h
  simp only [formF] at h
  split at h
  · cases h
  · rename_i hv; exact ⟨_, by decide, by decide, dec_dab_bad w (.lit 3) ⟨#[109, 117, 108]⟩ 0 of_3 h0 h1 (by show (3 : Int) = _; omega) (by omega)⟩
theorem decis_4 {w : Int} (h0 : 0 ≤ w) (h1 : w < 4294967296) (hk : w / 67108864 = 4) (i : Ins) (h : decF w = some i) : i.op = 4 ∧ DecIs w 4 i.d i.a i.b i.imm := by
  have e : (w / 67108864).toNat = 4 := by omega
  unfold decF at h; rw [e] at h
  simp only [formF] at h
  split at h
  · rename_i hv; cases h; exact ⟨rfl, dec_dab w (.lit 4) ⟨#[100, 105, 118, 117]⟩ 0 of_4 h0 h1 (by show (4 : Int) = _; omega) hv⟩
  · cases h
theorem decbad_4 {w : Int} (h0 : 0 ≤ w) (h1 : w < 4294967296) (hk : w / 67108864 = 4) (h : decF w = none) : DecBad w := by
  have e : (w / 67108864).toNat = 4 := by omega
  unfold decF at h; rw [e] at h
  simp only [formF] at h
  split at h
  · cases h
  · rename_i hv; exact ⟨_, by decide, by decide, dec_dab_bad w (.lit 4) ⟨#[100, 105, 118, 117]⟩ 0 of_4 h0 h1 (by show (4 : Int) = _; omega) (by omega)⟩
theorem decis_5 {w : Int} (h0 : 0 ≤ w) (h1 : w < 4294967296) (hk : w / 67108864 = 5) (i : Ins) (h : decF w = some i) : i.op = 5 ∧ DecIs w 5 i.d i.a i.b i.imm := by
  have e : (w / 67108864).toNat = 5 := by omega
  unfold decF at h; rw [e] at h
  simp only [formF] at h
  split at h
  · rename_i hv; cases h; exact ⟨rfl, dec_dab w (.lit 5) ⟨#[114, 101, 109, 117]⟩ 0 of_5 h0 h1 (by show (5 : Int) = _; omega) hv⟩
  · cases h
theorem decbad_5 {w : Int} (h0 : 0 ≤ w) (h1 : w < 4294967296) (hk : w / 67108864 = 5) (h : decF w = none) : DecBad w := by
  have e : (w / 67108864).toNat = 5 := by omega
  unfold decF at h; rw [e] at h
  simp only [formF] at h
  split at h
  · cases h
  · rename_i hv; exact ⟨_, by decide, by decide, dec_dab_bad w (.lit 5) ⟨#[114, 101, 109, 117]⟩ 0 of_5 h0 h1 (by show (5 : Int) = _; omega) (by omega)⟩
theorem decis_6 {w : Int} (h0 : 0 ≤ w) (h1 : w < 4294967296) (hk : w / 67108864 = 6) (i : Ins) (h : decF w = some i) : i.op = 6 ∧ DecIs w 6 i.d i.a i.b i.imm := by
  have e : (w / 67108864).toNat = 6 := by omega
  unfold decF at h; rw [e] at h
  simp only [formF] at h
  split at h
  · rename_i hv; cases h; exact ⟨rfl, dec_dab w (.lit 6) ⟨#[97, 110, 100]⟩ 0 of_6 h0 h1 (by show (6 : Int) = _; omega) hv⟩
  · cases h
theorem decbad_6 {w : Int} (h0 : 0 ≤ w) (h1 : w < 4294967296) (hk : w / 67108864 = 6) (h : decF w = none) : DecBad w := by
  have e : (w / 67108864).toNat = 6 := by omega
  unfold decF at h; rw [e] at h
  simp only [formF] at h
  split at h
  · cases h
  · rename_i hv; exact ⟨_, by decide, by decide, dec_dab_bad w (.lit 6) ⟨#[97, 110, 100]⟩ 0 of_6 h0 h1 (by show (6 : Int) = _; omega) (by omega)⟩
theorem decis_7 {w : Int} (h0 : 0 ≤ w) (h1 : w < 4294967296) (hk : w / 67108864 = 7) (i : Ins) (h : decF w = some i) : i.op = 7 ∧ DecIs w 7 i.d i.a i.b i.imm := by
  have e : (w / 67108864).toNat = 7 := by omega
  unfold decF at h; rw [e] at h
  simp only [formF] at h
  split at h
  · rename_i hv; cases h; exact ⟨rfl, dec_dab w (.lit 7) ⟨#[111, 114]⟩ 0 of_7 h0 h1 (by show (7 : Int) = _; omega) hv⟩
  · cases h
theorem decbad_7 {w : Int} (h0 : 0 ≤ w) (h1 : w < 4294967296) (hk : w / 67108864 = 7) (h : decF w = none) : DecBad w := by
  have e : (w / 67108864).toNat = 7 := by omega
  unfold decF at h; rw [e] at h
  simp only [formF] at h
  split at h
  · cases h
  · rename_i hv; exact ⟨_, by decide, by decide, dec_dab_bad w (.lit 7) ⟨#[111, 114]⟩ 0 of_7 h0 h1 (by show (7 : Int) = _; omega) (by omega)⟩
theorem decis_8 {w : Int} (h0 : 0 ≤ w) (h1 : w < 4294967296) (hk : w / 67108864 = 8) (i : Ins) (h : decF w = some i) : i.op = 8 ∧ DecIs w 8 i.d i.a i.b i.imm := by
  have e : (w / 67108864).toNat = 8 := by omega
  unfold decF at h; rw [e] at h
  simp only [formF] at h
  split at h
  · rename_i hv; cases h; exact ⟨rfl, dec_dab w (.lit 8) ⟨#[120, 111, 114]⟩ 0 of_8 h0 h1 (by show (8 : Int) = _; omega) hv⟩
  · cases h
theorem decbad_8 {w : Int} (h0 : 0 ≤ w) (h1 : w < 4294967296) (hk : w / 67108864 = 8) (h : decF w = none) : DecBad w := by
  have e : (w / 67108864).toNat = 8 := by omega
  unfold decF at h; rw [e] at h
  simp only [formF] at h
  split at h
  · cases h
  · rename_i hv; exact ⟨_, by decide, by decide, dec_dab_bad w (.lit 8) ⟨#[120, 111, 114]⟩ 0 of_8 h0 h1 (by show (8 : Int) = _; omega) (by omega)⟩
theorem decis_9 {w : Int} (h0 : 0 ≤ w) (h1 : w < 4294967296) (hk : w / 67108864 = 9) (i : Ins) (h : decF w = some i) : i.op = 9 ∧ DecIs w 9 i.d i.a i.b i.imm := by
  have e : (w / 67108864).toNat = 9 := by omega
  unfold decF at h; rw [e] at h
  simp only [formF] at h
  split at h
  · rename_i hv; cases h; exact ⟨rfl, dec_dab w (.lit 9) ⟨#[115, 104, 108]⟩ 0 of_9 h0 h1 (by show (9 : Int) = _; omega) hv⟩
  · cases h
theorem decbad_9 {w : Int} (h0 : 0 ≤ w) (h1 : w < 4294967296) (hk : w / 67108864 = 9) (h : decF w = none) : DecBad w := by
  have e : (w / 67108864).toNat = 9 := by omega
  unfold decF at h; rw [e] at h
  simp only [formF] at h
  split at h
  · cases h
  · rename_i hv; exact ⟨_, by decide, by decide, dec_dab_bad w (.lit 9) ⟨#[115, 104, 108]⟩ 0 of_9 h0 h1 (by show (9 : Int) = _; omega) (by omega)⟩
theorem decis_10 {w : Int} (h0 : 0 ≤ w) (h1 : w < 4294967296) (hk : w / 67108864 = 10) (i : Ins) (h : decF w = some i) : i.op = 10 ∧ DecIs w 10 i.d i.a i.b i.imm := by
  have e : (w / 67108864).toNat = 10 := by omega
  unfold decF at h; rw [e] at h
  simp only [formF] at h
  split at h
  · rename_i hv; cases h; exact ⟨rfl, dec_dab w (.lit 10) ⟨#[115, 104, 114]⟩ 0 of_10 h0 h1 (by show (10 : Int) = _; omega) hv⟩
  · cases h
theorem decbad_10 {w : Int} (h0 : 0 ≤ w) (h1 : w < 4294967296) (hk : w / 67108864 = 10) (h : decF w = none) : DecBad w := by
  have e : (w / 67108864).toNat = 10 := by omega
  unfold decF at h; rw [e] at h
  simp only [formF] at h
  split at h
  · cases h
  · rename_i hv; exact ⟨_, by decide, by decide, dec_dab_bad w (.lit 10) ⟨#[115, 104, 114]⟩ 0 of_10 h0 h1 (by show (10 : Int) = _; omega) (by omega)⟩
theorem decis_11 {w : Int} (h0 : 0 ≤ w) (h1 : w < 4294967296) (hk : w / 67108864 = 11) (i : Ins) (h : decF w = some i) : i.op = 11 ∧ DecIs w 11 i.d i.a i.b i.imm := by
  have e : (w / 67108864).toNat = 11 := by omega
  unfold decF at h; rw [e] at h
  simp only [formF] at h
  split at h
  · rename_i hv; cases h; exact ⟨rfl, dec_dab w (.lit 11) ⟨#[115, 97, 114]⟩ 0 of_11 h0 h1 (by show (11 : Int) = _; omega) hv⟩
  · cases h
theorem decbad_11 {w : Int} (h0 : 0 ≤ w) (h1 : w < 4294967296) (hk : w / 67108864 = 11) (h : decF w = none) : DecBad w := by
  have e : (w / 67108864).toNat = 11 := by omega
  unfold decF at h; rw [e] at h
  simp only [formF] at h
  split at h
  · cases h
  · rename_i hv; exact ⟨_, by decide, by decide, dec_dab_bad w (.lit 11) ⟨#[115, 97, 114]⟩ 0 of_11 h0 h1 (by show (11 : Int) = _; omega) (by omega)⟩
theorem decis_12 {w : Int} (h0 : 0 ≤ w) (h1 : w < 4294967296) (hk : w / 67108864 = 12) (i : Ins) (h : decF w = some i) : i.op = 12 ∧ DecIs w 12 i.d i.a i.b i.imm := by
  have e : (w / 67108864).toNat = 12 := by omega
  unfold decF at h; rw [e] at h
  simp only [formF] at h
  split at h
  · rename_i hv; cases h; exact ⟨rfl, dec_dab w (.lit 12) ⟨#[115, 108, 116]⟩ 0 of_12 h0 h1 (by show (12 : Int) = _; omega) hv⟩
  · cases h
theorem decbad_12 {w : Int} (h0 : 0 ≤ w) (h1 : w < 4294967296) (hk : w / 67108864 = 12) (h : decF w = none) : DecBad w := by
  have e : (w / 67108864).toNat = 12 := by omega
  unfold decF at h; rw [e] at h
  simp only [formF] at h
  split at h
  · cases h
  · rename_i hv; exact ⟨_, by decide, by decide, dec_dab_bad w (.lit 12) ⟨#[115, 108, 116]⟩ 0 of_12 h0 h1 (by show (12 : Int) = _; omega) (by omega)⟩
theorem decis_13 {w : Int} (h0 : 0 ≤ w) (h1 : w < 4294967296) (hk : w / 67108864 = 13) (i : Ins) (h : decF w = some i) : i.op = 13 ∧ DecIs w 13 i.d i.a i.b i.imm := by
  have e : (w / 67108864).toNat = 13 := by omega
  unfold decF at h; rw [e] at h
  simp only [formF] at h
  split at h
  · rename_i hv; cases h; exact ⟨rfl, dec_dab w (.lit 13) ⟨#[115, 108, 116, 117]⟩ 0 of_13 h0 h1 (by show (13 : Int) = _; omega) hv⟩
  · cases h
theorem decbad_13 {w : Int} (h0 : 0 ≤ w) (h1 : w < 4294967296) (hk : w / 67108864 = 13) (h : decF w = none) : DecBad w := by
  have e : (w / 67108864).toNat = 13 := by omega
  unfold decF at h; rw [e] at h
  simp only [formF] at h
  split at h
  · cases h
  · rename_i hv; exact ⟨_, by decide, by decide, dec_dab_bad w (.lit 13) ⟨#[115, 108, 116, 117]⟩ 0 of_13 h0 h1 (by show (13 : Int) = _; omega) (by omega)⟩
theorem decis_14 {w : Int} (h0 : 0 ≤ w) (h1 : w < 4294967296) (hk : w / 67108864 = 14) (i : Ins) (h : decF w = some i) : i.op = 14 ∧ DecIs w 14 i.d i.a i.b i.imm := by
  have e : (w / 67108864).toNat = 14 := by omega
  unfold decF at h; rw [e] at h
  simp only [formF] at h
  cases h; exact ⟨rfl, dec_dais w (.lit 14) ⟨#[97, 100, 100, 105]⟩ 0 of_14 h0 h1 (by show (14 : Int) = _; omega) _ rfl⟩
theorem decbad_14 {w : Int} (h0 : 0 ≤ w) (h1 : w < 4294967296) (hk : w / 67108864 = 14) (h : decF w = none) : DecBad w := by
  have e : (w / 67108864).toNat = 14 := by omega
  unfold decF at h; rw [e] at h
  simp only [formF] at h
  cases h
theorem decis_15 {w : Int} (h0 : 0 ≤ w) (h1 : w < 4294967296) (hk : w / 67108864 = 15) (i : Ins) (h : decF w = some i) : i.op = 15 ∧ DecIs w 15 i.d i.a i.b i.imm := by
  have e : (w / 67108864).toNat = 15 := by omega
  unfold decF at h; rw [e] at h
  simp only [formF] at h
  cases h; exact ⟨rfl, dec_daiu w (.lit 15) ⟨#[97, 110, 100, 105]⟩ 0 of_15 h0 h1 (by show (15 : Int) = _; omega)⟩
theorem decbad_15 {w : Int} (h0 : 0 ≤ w) (h1 : w < 4294967296) (hk : w / 67108864 = 15) (h : decF w = none) : DecBad w := by
  have e : (w / 67108864).toNat = 15 := by omega
  unfold decF at h; rw [e] at h
  simp only [formF] at h
  cases h
theorem decis_16 {w : Int} (h0 : 0 ≤ w) (h1 : w < 4294967296) (hk : w / 67108864 = 16) (i : Ins) (h : decF w = some i) : i.op = 16 ∧ DecIs w 16 i.d i.a i.b i.imm := by
  have e : (w / 67108864).toNat = 16 := by omega
  unfold decF at h; rw [e] at h
  simp only [formF] at h
  cases h; exact ⟨rfl, dec_daiu w (.lit 16) ⟨#[111, 114, 105]⟩ 0 of_16 h0 h1 (by show (16 : Int) = _; omega)⟩
theorem decbad_16 {w : Int} (h0 : 0 ≤ w) (h1 : w < 4294967296) (hk : w / 67108864 = 16) (h : decF w = none) : DecBad w := by
  have e : (w / 67108864).toNat = 16 := by omega
  unfold decF at h; rw [e] at h
  simp only [formF] at h
  cases h
theorem decis_17 {w : Int} (h0 : 0 ≤ w) (h1 : w < 4294967296) (hk : w / 67108864 = 17) (i : Ins) (h : decF w = some i) : i.op = 17 ∧ DecIs w 17 i.d i.a i.b i.imm := by
  have e : (w / 67108864).toNat = 17 := by omega
  unfold decF at h; rw [e] at h
  simp only [formF] at h
  cases h; exact ⟨rfl, dec_daiu w (.lit 17) ⟨#[120, 111, 114, 105]⟩ 0 of_17 h0 h1 (by show (17 : Int) = _; omega)⟩
theorem decbad_17 {w : Int} (h0 : 0 ≤ w) (h1 : w < 4294967296) (hk : w / 67108864 = 17) (h : decF w = none) : DecBad w := by
  have e : (w / 67108864).toNat = 17 := by omega
  unfold decF at h; rw [e] at h
  simp only [formF] at h
  cases h
theorem decis_18 {w : Int} (h0 : 0 ≤ w) (h1 : w < 4294967296) (hk : w / 67108864 = 18) (i : Ins) (h : decF w = some i) : i.op = 18 ∧ DecIs w 18 i.d i.a i.b i.imm := by
  have e : (w / 67108864).toNat = 18 := by omega
  unfold decF at h; rw [e] at h
  simp only [formF] at h
  split at h
  · rename_i hv; cases h; exact ⟨rfl, dec_dain w (.lit 18) ⟨#[115, 104, 108, 105]⟩ 0 of_18 h0 h1 (by show (18 : Int) = _; omega) hv⟩
  · cases h
theorem decbad_18 {w : Int} (h0 : 0 ≤ w) (h1 : w < 4294967296) (hk : w / 67108864 = 18) (h : decF w = none) : DecBad w := by
  have e : (w / 67108864).toNat = 18 := by omega
  unfold decF at h; rw [e] at h
  simp only [formF] at h
  split at h
  · cases h
  · rename_i hv; exact ⟨_, by decide, by decide, dec_dain_bad w (.lit 18) ⟨#[115, 104, 108, 105]⟩ 0 of_18 h0 h1 (by show (18 : Int) = _; omega) (by omega)⟩
theorem decis_19 {w : Int} (h0 : 0 ≤ w) (h1 : w < 4294967296) (hk : w / 67108864 = 19) (i : Ins) (h : decF w = some i) : i.op = 19 ∧ DecIs w 19 i.d i.a i.b i.imm := by
  have e : (w / 67108864).toNat = 19 := by omega
  unfold decF at h; rw [e] at h
  simp only [formF] at h
  split at h
  · rename_i hv; cases h; exact ⟨rfl, dec_dain w (.lit 19) ⟨#[115, 104, 114, 105]⟩ 0 of_19 h0 h1 (by show (19 : Int) = _; omega) hv⟩
  · cases h
theorem decbad_19 {w : Int} (h0 : 0 ≤ w) (h1 : w < 4294967296) (hk : w / 67108864 = 19) (h : decF w = none) : DecBad w := by
  have e : (w / 67108864).toNat = 19 := by omega
  unfold decF at h; rw [e] at h
  simp only [formF] at h
  split at h
  · cases h
  · rename_i hv; exact ⟨_, by decide, by decide, dec_dain_bad w (.lit 19) ⟨#[115, 104, 114, 105]⟩ 0 of_19 h0 h1 (by show (19 : Int) = _; omega) (by omega)⟩
theorem decis_20 {w : Int} (h0 : 0 ≤ w) (h1 : w < 4294967296) (hk : w / 67108864 = 20) (i : Ins) (h : decF w = some i) : i.op = 20 ∧ DecIs w 20 i.d i.a i.b i.imm := by
  have e : (w / 67108864).toNat = 20 := by omega
  unfold decF at h; rw [e] at h
  simp only [formF] at h
  split at h
  · rename_i hv; cases h; exact ⟨rfl, dec_dain w (.lit 20) ⟨#[115, 97, 114, 105]⟩ 0 of_20 h0 h1 (by show (20 : Int) = _; omega) hv⟩
  · cases h
theorem decbad_20 {w : Int} (h0 : 0 ≤ w) (h1 : w < 4294967296) (hk : w / 67108864 = 20) (h : decF w = none) : DecBad w := by
  have e : (w / 67108864).toNat = 20 := by omega
  unfold decF at h; rw [e] at h
  simp only [formF] at h
  split at h
  · cases h
  · rename_i hv; exact ⟨_, by decide, by decide, dec_dain_bad w (.lit 20) ⟨#[115, 97, 114, 105]⟩ 0 of_20 h0 h1 (by show (20 : Int) = _; omega) (by omega)⟩
theorem decis_21 {w : Int} (h0 : 0 ≤ w) (h1 : w < 4294967296) (hk : w / 67108864 = 21) (i : Ins) (h : decF w = some i) : i.op = 21 ∧ DecIs w 21 i.d i.a i.b i.imm := by
  have e : (w / 67108864).toNat = 21 := by omega
  unfold decF at h; rw [e] at h
  simp only [formF] at h
  cases h; exact ⟨rfl, dec_dais w (.lit 21) ⟨#[115, 108, 116, 105]⟩ 0 of_21 h0 h1 (by show (21 : Int) = _; omega) _ rfl⟩
theorem decbad_21 {w : Int} (h0 : 0 ≤ w) (h1 : w < 4294967296) (hk : w / 67108864 = 21) (h : decF w = none) : DecBad w := by
  have e : (w / 67108864).toNat = 21 := by omega
  unfold decF at h; rw [e] at h
  simp only [formF] at h
  cases h
theorem decis_22 {w : Int} (h0 : 0 ≤ w) (h1 : w < 4294967296) (hk : w / 67108864 = 22) (i : Ins) (h : decF w = some i) : i.op = 22 ∧ DecIs w 22 i.d i.a i.b i.imm := by
  have e : (w / 67108864).toNat = 22 := by omega
  unfold decF at h; rw [e] at h
  simp only [formF] at h
  cases h; exact ⟨rfl, dec_dais w (.lit 22) ⟨#[115, 108, 116, 117, 105]⟩ 0 of_22 h0 h1 (by show (22 : Int) = _; omega) _ rfl⟩
theorem decbad_22 {w : Int} (h0 : 0 ≤ w) (h1 : w < 4294967296) (hk : w / 67108864 = 22) (h : decF w = none) : DecBad w := by
  have e : (w / 67108864).toNat = 22 := by omega
  unfold decF at h; rw [e] at h
  simp only [formF] at h
  cases h
theorem decis_23 {w : Int} (h0 : 0 ≤ w) (h1 : w < 4294967296) (hk : w / 67108864 = 23) (i : Ins) (h : decF w = some i) : i.op = 23 ∧ DecIs w 23 i.d i.a i.b i.imm := by
  have e : (w / 67108864).toNat = 23 := by omega
  unfold decF at h; rw [e] at h
  simp only [formF] at h
  split at h
  · rename_i hv; cases h; exact ⟨rfl, dec_diu w (.lit 23) ⟨#[108, 117, 105]⟩ 0 of_23 h0 h1 (by show (23 : Int) = _; omega) hv⟩
  · cases h
theorem decbad_23 {w : Int} (h0 : 0 ≤ w) (h1 : w < 4294967296) (hk : w / 67108864 = 23) (h : decF w = none) : DecBad w := by
  have e : (w / 67108864).toNat = 23 := by omega
  unfold decF at h; rw [e] at h
  simp only [formF] at h
  split at h
  · cases h
  · rename_i hv; exact ⟨_, by decide, by decide, dec_diu_bad w (.lit 23) ⟨#[108, 117, 105]⟩ 0 of_23 h0 h1 (by show (23 : Int) = _; omega) (by omega)⟩
theorem decis_24 {w : Int} (h0 : 0 ≤ w) (h1 : w < 4294967296) (hk : w / 67108864 = 24) (i : Ins) (h : decF w = some i) : i.op = 24 ∧ DecIs w 24 i.d i.a i.b i.imm := by
  have e : (w / 67108864).toNat = 24 := by omega
  unfold decF at h; rw [e] at h
  simp only [formF] at h
  cases h; exact ⟨rfl, dec_dais w (.lit 24) ⟨#[108, 98]⟩ 1 of_24 h0 h1 (by show (24 : Int) = _; omega) _ rfl⟩
theorem decbad_24 {w : Int} (h0 : 0 ≤ w) (h1 : w < 4294967296) (hk : w / 67108864 = 24) (h : decF w = none) : DecBad w := by
  have e : (w / 67108864).toNat = 24 := by omega
  unfold decF at h; rw [e] at h
  simp only [formF] at h
  cases h
theorem decis_25 {w : Int} (h0 : 0 ≤ w) (h1 : w < 4294967296) (hk : w / 67108864 = 25) (i : Ins) (h : decF w = some i) : i.op = 25 ∧ DecIs w 25 i.d i.a i.b i.imm := by
  have e : (w / 67108864).toNat = 25 := by omega
  unfold decF at h; rw [e] at h
  simp only [formF] at h
  cases h; exact ⟨rfl, dec_dais w (.lit 25) ⟨#[108, 98, 117]⟩ 1 of_25 h0 h1 (by show (25 : Int) = _; omega) _ rfl⟩
theorem decbad_25 {w : Int} (h0 : 0 ≤ w) (h1 : w < 4294967296) (hk : w / 67108864 = 25) (h : decF w = none) : DecBad w := by
  have e : (w / 67108864).toNat = 25 := by omega
  unfold decF at h; rw [e] at h
  simp only [formF] at h
  cases h
theorem decis_26 {w : Int} (h0 : 0 ≤ w) (h1 : w < 4294967296) (hk : w / 67108864 = 26) (i : Ins) (h : decF w = some i) : i.op = 26 ∧ DecIs w 26 i.d i.a i.b i.imm := by
  have e : (w / 67108864).toNat = 26 := by omega
  unfold decF at h; rw [e] at h
  simp only [formF] at h
  cases h; exact ⟨rfl, dec_dais w (.lit 26) ⟨#[108, 104]⟩ 1 of_26 h0 h1 (by show (26 : Int) = _; omega) _ rfl⟩
theorem decbad_26 {w : Int} (h0 : 0 ≤ w) (h1 : w < 4294967296) (hk : w / 67108864 = 26) (h : decF w = none) : DecBad w := by
  have e : (w / 67108864).toNat = 26 := by omega
  unfold decF at h; rw [e] at h
  simp only [formF] at h
  cases h
theorem decis_27 {w : Int} (h0 : 0 ≤ w) (h1 : w < 4294967296) (hk : w / 67108864 = 27) (i : Ins) (h : decF w = some i) : i.op = 27 ∧ DecIs w 27 i.d i.a i.b i.imm := by
  have e : (w / 67108864).toNat = 27 := by omega
  unfold decF at h; rw [e] at h
  simp only [formF] at h
  cases h; exact ⟨rfl, dec_dais w (.lit 27) ⟨#[108, 104, 117]⟩ 1 of_27 h0 h1 (by show (27 : Int) = _; omega) _ rfl⟩
theorem decbad_27 {w : Int} (h0 : 0 ≤ w) (h1 : w < 4294967296) (hk : w / 67108864 = 27) (h : decF w = none) : DecBad w := by
  have e : (w / 67108864).toNat = 27 := by omega
  unfold decF at h; rw [e] at h
  simp only [formF] at h
  cases h
theorem decis_28 {w : Int} (h0 : 0 ≤ w) (h1 : w < 4294967296) (hk : w / 67108864 = 28) (i : Ins) (h : decF w = some i) : i.op = 28 ∧ DecIs w 28 i.d i.a i.b i.imm := by
  have e : (w / 67108864).toNat = 28 := by omega
  unfold decF at h; rw [e] at h
  simp only [formF] at h
  cases h; exact ⟨rfl, dec_dais w (.lit 28) ⟨#[108, 119]⟩ 1 of_28 h0 h1 (by show (28 : Int) = _; omega) _ rfl⟩
theorem decbad_28 {w : Int} (h0 : 0 ≤ w) (h1 : w < 4294967296) (hk : w / 67108864 = 28) (h : decF w = none) : DecBad w := by
  have e : (w / 67108864).toNat = 28 := by omega
  unfold decF at h; rw [e] at h
  simp only [formF] at h
  cases h
theorem decis_29 {w : Int} (h0 : 0 ≤ w) (h1 : w < 4294967296) (hk : w / 67108864 = 29) (i : Ins) (h : decF w = some i) : i.op = 29 ∧ DecIs w 29 i.d i.a i.b i.imm := by
  have e : (w / 67108864).toNat = 29 := by omega
  unfold decF at h; rw [e] at h
  simp only [formF] at h
  cases h; exact ⟨rfl, dec_abis w (.lit 29) ⟨#[115, 98]⟩ 1 of_29 h0 h1 (by show (29 : Int) = _; omega) _ rfl⟩
theorem decbad_29 {w : Int} (h0 : 0 ≤ w) (h1 : w < 4294967296) (hk : w / 67108864 = 29) (h : decF w = none) : DecBad w := by
  have e : (w / 67108864).toNat = 29 := by omega
  unfold decF at h; rw [e] at h
  simp only [formF] at h
  cases h
theorem decis_30 {w : Int} (h0 : 0 ≤ w) (h1 : w < 4294967296) (hk : w / 67108864 = 30) (i : Ins) (h : decF w = some i) : i.op = 30 ∧ DecIs w 30 i.d i.a i.b i.imm := by
  have e : (w / 67108864).toNat = 30 := by omega
  unfold decF at h; rw [e] at h
  simp only [formF] at h
  cases h; exact ⟨rfl, dec_abis w (.lit 30) ⟨#[115, 104]⟩ 1 of_30 h0 h1 (by show (30 : Int) = _; omega) _ rfl⟩
theorem decbad_30 {w : Int} (h0 : 0 ≤ w) (h1 : w < 4294967296) (hk : w / 67108864 = 30) (h : decF w = none) : DecBad w := by
  have e : (w / 67108864).toNat = 30 := by omega
  unfold decF at h; rw [e] at h
  simp only [formF] at h
  cases h
theorem decis_31 {w : Int} (h0 : 0 ≤ w) (h1 : w < 4294967296) (hk : w / 67108864 = 31) (i : Ins) (h : decF w = some i) : i.op = 31 ∧ DecIs w 31 i.d i.a i.b i.imm := by
  have e : (w / 67108864).toNat = 31 := by omega
  unfold decF at h; rw [e] at h
  simp only [formF] at h
  cases h; exact ⟨rfl, dec_abis w (.lit 31) ⟨#[115, 119]⟩ 1 of_31 h0 h1 (by show (31 : Int) = _; omega) _ rfl⟩
theorem decbad_31 {w : Int} (h0 : 0 ≤ w) (h1 : w < 4294967296) (hk : w / 67108864 = 31) (h : decF w = none) : DecBad w := by
  have e : (w / 67108864).toNat = 31 := by omega
  unfold decF at h; rw [e] at h
  simp only [formF] at h
  cases h
theorem decis_32 {w : Int} (h0 : 0 ≤ w) (h1 : w < 4294967296) (hk : w / 67108864 = 32) (i : Ins) (h : decF w = some i) : i.op = 32 ∧ DecIs w 32 i.d i.a i.b i.imm := by
  have e : (w / 67108864).toNat = 32 := by omega
  unfold decF at h; rw [e] at h
  simp only [formF] at h
  cases h; exact ⟨rfl, dec_abis w (.lit 32) ⟨#[98, 101, 113]⟩ 0 of_32 h0 h1 (by show (32 : Int) = _; omega) _ rfl⟩
theorem decbad_32 {w : Int} (h0 : 0 ≤ w) (h1 : w < 4294967296) (hk : w / 67108864 = 32) (h : decF w = none) : DecBad w := by
  have e : (w / 67108864).toNat = 32 := by omega
  unfold decF at h; rw [e] at h
  simp only [formF] at h
  cases h
theorem decis_33 {w : Int} (h0 : 0 ≤ w) (h1 : w < 4294967296) (hk : w / 67108864 = 33) (i : Ins) (h : decF w = some i) : i.op = 33 ∧ DecIs w 33 i.d i.a i.b i.imm := by
  have e : (w / 67108864).toNat = 33 := by omega
  unfold decF at h; rw [e] at h
  simp only [formF] at h
  cases h; exact ⟨rfl, dec_abis w (.lit 33) ⟨#[98, 110, 101]⟩ 0 of_33 h0 h1 (by show (33 : Int) = _; omega) _ rfl⟩
theorem decbad_33 {w : Int} (h0 : 0 ≤ w) (h1 : w < 4294967296) (hk : w / 67108864 = 33) (h : decF w = none) : DecBad w := by
  have e : (w / 67108864).toNat = 33 := by omega
  unfold decF at h; rw [e] at h
  simp only [formF] at h
  cases h
theorem decis_34 {w : Int} (h0 : 0 ≤ w) (h1 : w < 4294967296) (hk : w / 67108864 = 34) (i : Ins) (h : decF w = some i) : i.op = 34 ∧ DecIs w 34 i.d i.a i.b i.imm := by
  have e : (w / 67108864).toNat = 34 := by omega
  unfold decF at h; rw [e] at h
  simp only [formF] at h
  cases h; exact ⟨rfl, dec_abis w (.lit 34) ⟨#[98, 108, 116]⟩ 0 of_34 h0 h1 (by show (34 : Int) = _; omega) _ rfl⟩
theorem decbad_34 {w : Int} (h0 : 0 ≤ w) (h1 : w < 4294967296) (hk : w / 67108864 = 34) (h : decF w = none) : DecBad w := by
  have e : (w / 67108864).toNat = 34 := by omega
  unfold decF at h; rw [e] at h
  simp only [formF] at h
  cases h
theorem decis_35 {w : Int} (h0 : 0 ≤ w) (h1 : w < 4294967296) (hk : w / 67108864 = 35) (i : Ins) (h : decF w = some i) : i.op = 35 ∧ DecIs w 35 i.d i.a i.b i.imm := by
  have e : (w / 67108864).toNat = 35 := by omega
  unfold decF at h; rw [e] at h
  simp only [formF] at h
  cases h; exact ⟨rfl, dec_abis w (.lit 35) ⟨#[98, 103, 101]⟩ 0 of_35 h0 h1 (by show (35 : Int) = _; omega) _ rfl⟩
theorem decbad_35 {w : Int} (h0 : 0 ≤ w) (h1 : w < 4294967296) (hk : w / 67108864 = 35) (h : decF w = none) : DecBad w := by
  have e : (w / 67108864).toNat = 35 := by omega
  unfold decF at h; rw [e] at h
  simp only [formF] at h
  cases h
theorem decis_36 {w : Int} (h0 : 0 ≤ w) (h1 : w < 4294967296) (hk : w / 67108864 = 36) (i : Ins) (h : decF w = some i) : i.op = 36 ∧ DecIs w 36 i.d i.a i.b i.imm := by
  have e : (w / 67108864).toNat = 36 := by omega
  unfold decF at h; rw [e] at h
  simp only [formF] at h
  cases h; exact ⟨rfl, dec_abis w (.lit 36) ⟨#[98, 108, 116, 117]⟩ 0 of_36 h0 h1 (by show (36 : Int) = _; omega) _ rfl⟩
theorem decbad_36 {w : Int} (h0 : 0 ≤ w) (h1 : w < 4294967296) (hk : w / 67108864 = 36) (h : decF w = none) : DecBad w := by
  have e : (w / 67108864).toNat = 36 := by omega
  unfold decF at h; rw [e] at h
  simp only [formF] at h
  cases h
theorem decis_37 {w : Int} (h0 : 0 ≤ w) (h1 : w < 4294967296) (hk : w / 67108864 = 37) (i : Ins) (h : decF w = some i) : i.op = 37 ∧ DecIs w 37 i.d i.a i.b i.imm := by
  have e : (w / 67108864).toNat = 37 := by omega
  unfold decF at h; rw [e] at h
  simp only [formF] at h
  cases h; exact ⟨rfl, dec_abis w (.lit 37) ⟨#[98, 103, 101, 117]⟩ 0 of_37 h0 h1 (by show (37 : Int) = _; omega) _ rfl⟩
theorem decbad_37 {w : Int} (h0 : 0 ≤ w) (h1 : w < 4294967296) (hk : w / 67108864 = 37) (h : decF w = none) : DecBad w := by
  have e : (w / 67108864).toNat = 37 := by omega
  unfold decF at h; rw [e] at h
  simp only [formF] at h
  cases h
theorem decis_38 {w : Int} (h0 : 0 ≤ w) (h1 : w < 4294967296) (hk : w / 67108864 = 38) (i : Ins) (h : decF w = some i) : i.op = 38 ∧ DecIs w 38 i.d i.a i.b i.imm := by
  have e : (w / 67108864).toNat = 38 := by omega
  unfold decF at h; rw [e] at h
  simp only [formF] at h
  cases h; exact ⟨rfl, dec_dis w (.lit 38) ⟨#[106, 97, 108]⟩ 0 of_38 h0 h1 (by show (38 : Int) = _; omega) _ rfl⟩
theorem decbad_38 {w : Int} (h0 : 0 ≤ w) (h1 : w < 4294967296) (hk : w / 67108864 = 38) (h : decF w = none) : DecBad w := by
  have e : (w / 67108864).toNat = 38 := by omega
  unfold decF at h; rw [e] at h
  simp only [formF] at h
  cases h
theorem decis_39 {w : Int} (h0 : 0 ≤ w) (h1 : w < 4294967296) (hk : w / 67108864 = 39) (i : Ins) (h : decF w = some i) : i.op = 39 ∧ DecIs w 39 i.d i.a i.b i.imm := by
  have e : (w / 67108864).toNat = 39 := by omega
  unfold decF at h; rw [e] at h
  simp only [formF] at h
  cases h; exact ⟨rfl, dec_dais w (.lit 39) ⟨#[106, 97, 108, 114]⟩ 0 of_39 h0 h1 (by show (39 : Int) = _; omega) _ rfl⟩
theorem decbad_39 {w : Int} (h0 : 0 ≤ w) (h1 : w < 4294967296) (hk : w / 67108864 = 39) (h : decF w = none) : DecBad w := by
  have e : (w / 67108864).toNat = 39 := by omega
  unfold decF at h; rw [e] at h
  simp only [formF] at h
  cases h
theorem decis_40 {w : Int} (h0 : 0 ≤ w) (h1 : w < 4294967296) (hk : w / 67108864 = 40) (i : Ins) (h : decF w = some i) : i.op = 40 ∧ DecIs w 40 i.d i.a i.b i.imm := by
  have e : (w / 67108864).toNat = 40 := by omega
  unfold decF at h; rw [e] at h
  simp only [formF] at h
  split at h
  · rename_i hv; cases h; exact ⟨rfl, dec_iu w (.lit 40) ⟨#[104, 99, 97, 108, 108]⟩ 0 of_40 h0 h1 (by show (40 : Int) = _; omega) hv⟩
  · cases h
theorem decbad_40 {w : Int} (h0 : 0 ≤ w) (h1 : w < 4294967296) (hk : w / 67108864 = 40) (h : decF w = none) : DecBad w := by
  have e : (w / 67108864).toNat = 40 := by omega
  unfold decF at h; rw [e] at h
  simp only [formF] at h
  split at h
  · cases h
  · rename_i hv; exact ⟨_, by decide, by decide, dec_iu_bad w (.lit 40) ⟨#[104, 99, 97, 108, 108]⟩ 0 of_40 h0 h1 (by show (40 : Int) = _; omega) (by omega)⟩
theorem decis_41 {w : Int} (h0 : 0 ≤ w) (h1 : w < 4294967296) (hk : w / 67108864 = 41) (i : Ins) (h : decF w = some i) : i.op = 41 ∧ DecIs w 41 i.d i.a i.b i.imm := by
  have e : (w / 67108864).toNat = 41 := by omega
  unfold decF at h; rw [e] at h
  simp only [formF] at h
  split at h
  · rename_i hv; cases h; exact ⟨rfl, dec_d w (.lit 41) ⟨#[99, 108, 111, 99, 107]⟩ 0 of_41 h0 h1 (by show (41 : Int) = _; omega) hv⟩
  · cases h
theorem decbad_41 {w : Int} (h0 : 0 ≤ w) (h1 : w < 4294967296) (hk : w / 67108864 = 41) (h : decF w = none) : DecBad w := by
  have e : (w / 67108864).toNat = 41 := by omega
  unfold decF at h; rw [e] at h
  simp only [formF] at h
  split at h
  · cases h
  · rename_i hv; exact ⟨_, by decide, by decide, dec_d_bad w (.lit 41) ⟨#[99, 108, 111, 99, 107]⟩ 0 of_41 h0 h1 (by show (41 : Int) = _; omega) (by omega)⟩
theorem decis_42 {w : Int} (h0 : 0 ≤ w) (h1 : w < 4294967296) (hk : w / 67108864 = 42) (i : Ins) (h : decF w = some i) : i.op = 42 ∧ DecIs w 42 i.d i.a i.b i.imm := by
  have e : (w / 67108864).toNat = 42 := by omega
  unfold decF at h; rw [e] at h
  simp only [formF] at h
  split at h
  · rename_i hv; cases h; exact ⟨rfl, dec_n w (.lit 42) ⟨#[119, 97, 105, 116]⟩ 0 of_42 h0 h1 (by show (42 : Int) = _; omega) hv⟩
  · cases h
theorem decbad_42 {w : Int} (h0 : 0 ≤ w) (h1 : w < 4294967296) (hk : w / 67108864 = 42) (h : decF w = none) : DecBad w := by
  have e : (w / 67108864).toNat = 42 := by omega
  unfold decF at h; rw [e] at h
  simp only [formF] at h
  split at h
  · cases h
  · rename_i hv; exact ⟨_, by decide, by decide, dec_n_bad w (.lit 42) ⟨#[119, 97, 105, 116]⟩ 0 of_42 h0 h1 (by show (42 : Int) = _; omega) (by omega)⟩
theorem decis_43 {w : Int} (h0 : 0 ≤ w) (h1 : w < 4294967296) (hk : w / 67108864 = 43) (i : Ins) (h : decF w = some i) : i.op = 43 ∧ DecIs w 43 i.d i.a i.b i.imm := by
  have e : (w / 67108864).toNat = 43 := by omega
  unfold decF at h; rw [e] at h
  simp only [formF] at h
  split at h
  · rename_i hv; cases h; exact ⟨rfl, dec_n w (.lit 43) ⟨#[101, 105]⟩ 0 of_43 h0 h1 (by show (43 : Int) = _; omega) hv⟩
  · cases h
theorem decbad_43 {w : Int} (h0 : 0 ≤ w) (h1 : w < 4294967296) (hk : w / 67108864 = 43) (h : decF w = none) : DecBad w := by
  have e : (w / 67108864).toNat = 43 := by omega
  unfold decF at h; rw [e] at h
  simp only [formF] at h
  split at h
  · cases h
  · rename_i hv; exact ⟨_, by decide, by decide, dec_n_bad w (.lit 43) ⟨#[101, 105]⟩ 0 of_43 h0 h1 (by show (43 : Int) = _; omega) (by omega)⟩
theorem decis_44 {w : Int} (h0 : 0 ≤ w) (h1 : w < 4294967296) (hk : w / 67108864 = 44) (i : Ins) (h : decF w = some i) : i.op = 44 ∧ DecIs w 44 i.d i.a i.b i.imm := by
  have e : (w / 67108864).toNat = 44 := by omega
  unfold decF at h; rw [e] at h
  simp only [formF] at h
  split at h
  · rename_i hv; cases h; exact ⟨rfl, dec_n w (.lit 44) ⟨#[100, 105]⟩ 0 of_44 h0 h1 (by show (44 : Int) = _; omega) hv⟩
  · cases h
theorem decbad_44 {w : Int} (h0 : 0 ≤ w) (h1 : w < 4294967296) (hk : w / 67108864 = 44) (h : decF w = none) : DecBad w := by
  have e : (w / 67108864).toNat = 44 := by omega
  unfold decF at h; rw [e] at h
  simp only [formF] at h
  split at h
  · cases h
  · rename_i hv; exact ⟨_, by decide, by decide, dec_n_bad w (.lit 44) ⟨#[100, 105]⟩ 0 of_44 h0 h1 (by show (44 : Int) = _; omega) (by omega)⟩
theorem decis_45 {w : Int} (h0 : 0 ≤ w) (h1 : w < 4294967296) (hk : w / 67108864 = 45) (i : Ins) (h : decF w = some i) : i.op = 45 ∧ DecIs w 45 i.d i.a i.b i.imm := by
  have e : (w / 67108864).toNat = 45 := by omega
  unfold decF at h; rw [e] at h
  simp only [formF] at h
  split at h
  · rename_i hv; cases h; exact ⟨rfl, dec_n w (.lit 45) ⟨#[101, 114, 101, 116]⟩ 0 of_45 h0 h1 (by show (45 : Int) = _; omega) hv⟩
  · cases h
theorem decbad_45 {w : Int} (h0 : 0 ≤ w) (h1 : w < 4294967296) (hk : w / 67108864 = 45) (h : decF w = none) : DecBad w := by
  have e : (w / 67108864).toNat = 45 := by omega
  unfold decF at h; rw [e] at h
  simp only [formF] at h
  split at h
  · cases h
  · rename_i hv; exact ⟨_, by decide, by decide, dec_n_bad w (.lit 45) ⟨#[101, 114, 101, 116]⟩ 0 of_45 h0 h1 (by show (45 : Int) = _; omega) (by omega)⟩
theorem decis_46 {w : Int} (h0 : 0 ≤ w) (h1 : w < 4294967296) (hk : w / 67108864 = 46) (i : Ins) (h : decF w = some i) : i.op = 46 ∧ DecIs w 46 i.d i.a i.b i.imm := by
  have e : (w / 67108864).toNat = 46 := by omega
  unfold decF at h; rw [e] at h
  simp only [formF] at h
  split at h
  · rename_i hv; cases h; exact ⟨rfl, dec_a w (.lit 46) ⟨#[118, 101, 99]⟩ 0 of_46 h0 h1 (by show (46 : Int) = _; omega) hv⟩
  · cases h
theorem decbad_46 {w : Int} (h0 : 0 ≤ w) (h1 : w < 4294967296) (hk : w / 67108864 = 46) (h : decF w = none) : DecBad w := by
  have e : (w / 67108864).toNat = 46 := by omega
  unfold decF at h; rw [e] at h
  simp only [formF] at h
  split at h
  · cases h
  · rename_i hv; exact ⟨_, by decide, by decide, dec_a_bad w (.lit 46) ⟨#[118, 101, 99]⟩ 0 of_46 h0 h1 (by show (46 : Int) = _; omega) (by omega)⟩
theorem decis_47 {w : Int} (h0 : 0 ≤ w) (h1 : w < 4294967296) (hk : w / 67108864 = 47) (i : Ins) (h : decF w = some i) : i.op = 47 ∧ DecIs w 47 i.d i.a i.b i.imm := by
  have e : (w / 67108864).toNat = 47 := by omega
  unfold decF at h; rw [e] at h
  simp only [formF] at h
  split at h
  · rename_i hv; cases h; exact ⟨rfl, dec_n w (.lit 47) ⟨#[104, 97, 108, 116]⟩ 0 of_47 h0 h1 (by show (47 : Int) = _; omega) hv⟩
  · cases h
theorem decbad_47 {w : Int} (h0 : 0 ≤ w) (h1 : w < 4294967296) (hk : w / 67108864 = 47) (h : decF w = none) : DecBad w := by
  have e : (w / 67108864).toNat = 47 := by omega
  unfold decF at h; rw [e] at h
  simp only [formF] at h
  split at h
  · cases h
  · rename_i hv; exact ⟨_, by decide, by decide, dec_n_bad w (.lit 47) ⟨#[104, 97, 108, 116]⟩ 0 of_47 h0 h1 (by show (47 : Int) = _; omega) (by omega)⟩
theorem decis_48 {w : Int} (h0 : 0 ≤ w) (h1 : w < 4294967296) (hk : w / 67108864 = 48) (i : Ins) (h : decF w = some i) : i.op = 48 ∧ DecIs w 48 i.d i.a i.b i.imm := by
  have e : (w / 67108864).toNat = 48 := by omega
  unfold decF at h; rw [e] at h
  simp only [formF] at h
  split at h
  · rename_i hv; cases h; exact ⟨rfl, dec_n w (.lit 48) ⟨#[110, 111, 112]⟩ 0 of_48 h0 h1 (by show (48 : Int) = _; omega) hv⟩
  · cases h
theorem decbad_48 {w : Int} (h0 : 0 ≤ w) (h1 : w < 4294967296) (hk : w / 67108864 = 48) (h : decF w = none) : DecBad w := by
  have e : (w / 67108864).toNat = 48 := by omega
  unfold decF at h; rw [e] at h
  simp only [formF] at h
  split at h
  · cases h
  · rename_i hv; exact ⟨_, by decide, by decide, dec_n_bad w (.lit 48) ⟨#[110, 111, 112]⟩ 0 of_48 h0 h1 (by show (48 : Int) = _; omega) (by omega)⟩
theorem k_cases {w : Int} (h0 : 0 ≤ w) (h1 : w < 4294967296) : (w / 67108864 < 1 ∨ 48 < w / 67108864) ∨ w / 67108864 = 1 ∨ w / 67108864 = 2 ∨ w / 67108864 = 3 ∨ w / 67108864 = 4 ∨ w / 67108864 = 5 ∨ w / 67108864 = 6 ∨ w / 67108864 = 7 ∨ w / 67108864 = 8 ∨ w / 67108864 = 9 ∨ w / 67108864 = 10 ∨ w / 67108864 = 11 ∨ w / 67108864 = 12 ∨ w / 67108864 = 13 ∨ w / 67108864 = 14 ∨ w / 67108864 = 15 ∨ w / 67108864 = 16 ∨ w / 67108864 = 17 ∨ w / 67108864 = 18 ∨ w / 67108864 = 19 ∨ w / 67108864 = 20 ∨ w / 67108864 = 21 ∨ w / 67108864 = 22 ∨ w / 67108864 = 23 ∨ w / 67108864 = 24 ∨ w / 67108864 = 25 ∨ w / 67108864 = 26 ∨ w / 67108864 = 27 ∨ w / 67108864 = 28 ∨ w / 67108864 = 29 ∨ w / 67108864 = 30 ∨ w / 67108864 = 31 ∨ w / 67108864 = 32 ∨ w / 67108864 = 33 ∨ w / 67108864 = 34 ∨ w / 67108864 = 35 ∨ w / 67108864 = 36 ∨ w / 67108864 = 37 ∨ w / 67108864 = 38 ∨ w / 67108864 = 39 ∨ w / 67108864 = 40 ∨ w / 67108864 = 41 ∨ w / 67108864 = 42 ∨ w / 67108864 = 43 ∨ w / 67108864 = 44 ∨ w / 67108864 = 45 ∨ w / 67108864 = 46 ∨ w / 67108864 = 47 ∨ w / 67108864 = 48 := by omega
theorem dec_bad {w : Int} (h0 : 0 ≤ w) (h1 : w < 4294967296) (h : decF w = none) : DecBad w := by
  rcases k_cases h0 h1 with hk | hk | hk | hk | hk | hk | hk | hk | hk | hk | hk | hk | hk | hk | hk | hk | hk | hk | hk | hk | hk | hk | hk | hk | hk | hk | hk | hk | hk | hk | hk | hk | hk | hk | hk | hk | hk | hk | hk | hk | hk | hk | hk | hk | hk | hk | hk | hk | hk
  · exact ⟨100, by decide, .inl rfl, dec_none w h0 h1 hk⟩
  · exact decbad_1 h0 h1 hk h
  · exact decbad_2 h0 h1 hk h
  · exact decbad_3 h0 h1 hk h
  · exact decbad_4 h0 h1 hk h
  · exact decbad_5 h0 h1 hk h
  · exact decbad_6 h0 h1 hk h
  · exact decbad_7 h0 h1 hk h
  · exact decbad_8 h0 h1 hk h
  · exact decbad_9 h0 h1 hk h
  · exact decbad_10 h0 h1 hk h
  · exact decbad_11 h0 h1 hk h
  · exact decbad_12 h0 h1 hk h
  · exact decbad_13 h0 h1 hk h
  · exact decbad_14 h0 h1 hk h
  · exact decbad_15 h0 h1 hk h
  · exact decbad_16 h0 h1 hk h
  · exact decbad_17 h0 h1 hk h
  · exact decbad_18 h0 h1 hk h
  · exact decbad_19 h0 h1 hk h
  · exact decbad_20 h0 h1 hk h
  · exact decbad_21 h0 h1 hk h
  · exact decbad_22 h0 h1 hk h
  · exact decbad_23 h0 h1 hk h
  · exact decbad_24 h0 h1 hk h
  · exact decbad_25 h0 h1 hk h
  · exact decbad_26 h0 h1 hk h
  · exact decbad_27 h0 h1 hk h
  · exact decbad_28 h0 h1 hk h
  · exact decbad_29 h0 h1 hk h
  · exact decbad_30 h0 h1 hk h
  · exact decbad_31 h0 h1 hk h
  · exact decbad_32 h0 h1 hk h
  · exact decbad_33 h0 h1 hk h
  · exact decbad_34 h0 h1 hk h
  · exact decbad_35 h0 h1 hk h
  · exact decbad_36 h0 h1 hk h
  · exact decbad_37 h0 h1 hk h
  · exact decbad_38 h0 h1 hk h
  · exact decbad_39 h0 h1 hk h
  · exact decbad_40 h0 h1 hk h
  · exact decbad_41 h0 h1 hk h
  · exact decbad_42 h0 h1 hk h
  · exact decbad_43 h0 h1 hk h
  · exact decbad_44 h0 h1 hk h
  · exact decbad_45 h0 h1 hk h
  · exact decbad_46 h0 h1 hk h
  · exact decbad_47 h0 h1 hk h
  · exact decbad_48 h0 h1 hk h
theorem dec_rng {w : Int} (h0 : 0 ≤ w) (h1 : w < 4294967296) {i : Ins} (h : decF w = some i) : (0 ≤ i.d ∧ i.d < 16) ∧ (0 ≤ i.a ∧ i.a < 16) ∧ (0 ≤ i.b ∧ i.b < 16) := by
  unfold decF at h
  simp only at h
  split at h
  all_goals (try split at h)
  all_goals (first | cases h | skip)
  all_goals (simp only [x22, x18, x14]; omega)
theorem dec_imm {w : Int} (h0 : 0 ≤ w) (h1 : w < 4294967296) {i : Ins} (h : decF w = some i) (h40 : i.op = 40) : U32 i.imm := by
  unfold decF at h
  simp only at h
  split at h
  all_goals (try split at h)
  all_goals (first | cases h | skip)
  all_goals (simp only at h40; rename_i hf _; first | (rw [h40] at hf; simp [formF] at hf; done) | (simp only [U32]; omega) | (rename_i hf; rw [h40] at hf; simp [formF] at hf; done))
end Go.Proofs.YtkljgpepogkgdaaDoor
