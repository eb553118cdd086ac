/-
  Merged: P8 P9 BB P3 L3 F3.
-/
import Derived.Test.YtkljgpepogkgdaaDoorS0
import Derived.Test.YtkljgpepogkgdaaDoorS5
import Derived.Test.YtkljgpepogkgdaaDoorB
import Derived.Test.YtkljgpepogkgdaaDoorTM
import Derived.Test.YtkljgpepogkgdaaDoorGL
set_option linter.unusedVariables false
set_option linter.unusedSimpArgs false
namespace Go.Proofs.YtkljgpepogkgdaaDoor
open Go Go.Vex
theorem sum_U {k : Nat} {x y : Int} (hx : U32 x) (hy : U32 y) : U32 (sumF k x y) := by
  unfold sumF
  split
  · exact w32_ok _
  · exact w32_ok _
  · exact w32_ok _
  · split
    · exact ⟨by decide, by decide⟩
    · exact div_u hx hy
  · split
    · exact hx
    · rename_i h
      have h0 := Int.emod_nonneg x h
      have h1 := Int.emod_lt_of_pos x (show 0 < y by have := hy.1; omega)
      exact ⟨h0, by have := hy.2; omega⟩
  · obtain ⟨n, rfl, hn⟩ := nat_of hx; obtain ⟨m, rfl, hm⟩ := nat_of hy
    have : n &&& m < 2 ^ 32 := Nat.and_lt_two_pow _ hm
    simp only [Int.toNat_natCast]; exact ⟨by omega, by omega⟩
  · obtain ⟨n, rfl, hn⟩ := nat_of hx; obtain ⟨m, rfl, hm⟩ := nat_of hy
    have : n ||| m < 2 ^ 32 := Nat.or_lt_two_pow hn hm
    simp only [Int.toNat_natCast]; exact ⟨by omega, by omega⟩
  · obtain ⟨n, rfl, hn⟩ := nat_of hx; obtain ⟨m, rfl, hm⟩ := nat_of hy
    have : n ^^^ m < 2 ^ 32 := Nat.xor_lt_two_pow hn hm
    simp only [Int.toNat_natCast]; exact ⟨by omega, by omega⟩
  · exact w32_ok _
  · have hp := pow_pos' (y % 32).toNat
    have h1 := Int.ediv_le_self (2 ^ (y % 32).toNat) hx.1
    have h2 := Int.ediv_nonneg hx.1 (Int.le_of_lt hp)
    exact ⟨h2, by have := hx.2; omega⟩
  · exact w32_ok _
  · split <;> exact ⟨by decide, by decide⟩
  · split <;> exact ⟨by decide, by decide⟩
theorem p_back {a b : Int} (ha : U32 a) : sumF 2 (sumF 1 a b) b = a := by
  have := ha.1; have := ha.2
  simp only [sumF, w32]; omega
theorem p_less {a b : Int} : addI .u32 (sumF 13 a b) (sumF 13 b a) ≤ 1 ∧ (addI .u32 (sumF 13 a b) (sumF 13 b a) = 0 → a = b) := by
  rw [addI_eq, wrap_u32]
  simp only [sumF]
  constructor
  · split <;> split <;> omega
  · split <;> split <;> intro h <;> omega
theorem p_xor {a b : Int} (ha : U32 a) (hb : U32 b) : sumF 8 (sumF 8 a b) b = a := by
  obtain ⟨n, rfl, hn⟩ := nat_of ha; obtain ⟨m, rfl, hm⟩ := nat_of hb
  simp only [sumF, Int.toNat_natCast]
  rw [Nat.xor_assoc, Nat.xor_self, Nat.xor_zero]
theorem and_add_or (n : Nat) : ∀ m, (n &&& m) + (n ||| m) = n + m := by
  induction n using Nat.strongRecOn with
  | _ n ih =>
    intro m
    rcases Nat.eq_zero_or_pos n with h | h
    · subst h; simp
    · have i := ih (n / 2) (by omega) (m / 2)
      have e1 : (n &&& m) / 2 = n / 2 &&& m / 2 := Nat.and_div_two
      have e2 : (n ||| m) / 2 = n / 2 ||| m / 2 := Nat.or_div_two
      rw [← e1, ← e2] at i
      clear e1 e2
      have e3 : (n &&& m) % 2 = (n % 2) &&& (m % 2) := Nat.and_mod_two_pow (n := 1)
      have e4 : (n ||| m) % 2 = (n % 2) ||| (m % 2) := Nat.or_mod_two_pow (n := 1)
      have hn : n % 2 = 0 ∨ n % 2 = 1 := by omega
      have hm : m % 2 = 0 ∨ m % 2 = 1 := by omega
      rcases hn with hn | hn <;> rcases hm with hm | hm <;> rw [hn, hm] at e3 e4 <;> simp only [Nat.reduceAnd, Nat.reduceOr] at e3 e4 <;> clear ih <;> omega
theorem p_two {a b : Int} (ha : U32 a) (hb : U32 b) : sumF 1 (sumF 6 a b) (sumF 7 a b) = sumF 1 a b := by
  obtain ⟨n, rfl, hn⟩ := nat_of ha; obtain ⟨m, rfl, hm⟩ := nat_of hb
  simp only [sumF, Int.toNat_natCast]
  have := and_add_or n m
  congr 1; omega
theorem p_div {a b : Int} (ha : U32 a) (hb : U32 b) (h : b ≠ 0) : sumF 1 (sumF 3 (sumF 4 a b) b) (sumF 5 a b) = a ∧ sumF 5 a b < b := by
  simp only [sumF, if_neg h]
  constructor
  · have e : a / b * b + a % b = a := by rw [Int.mul_comm]; exact Int.mul_ediv_add_emod a b
    have e1 : a / b * b = a - a % b := by omega
    have h0 := Int.emod_nonneg a h
    have h1 := Int.emod_lt_of_pos a (show 0 < b by have := hb.1; omega)
    have h2 := div_u ha hb
    have h3 : 0 ≤ a / b * b := Int.mul_nonneg h2.1 hb.1
    have := ha.1; have := ha.2
    simp only [w32]
    generalize a / b * b = t at *
    omega
  · exact Int.emod_lt_of_pos a (by have := hb.1; omega)
theorem p_div0 {a b : Int} (h : b = 0) : sumF 4 a b = 4294967295 ∧ sumF 5 a b = a := by simp [sumF, h]
theorem p_down {a by_ : Int} (ha : U32 a) (hb : U32 by_) : sumF 10 (sumF 9 a by_) by_ = shrI .u32 (shlI .u32 a (andI .u32 by_ 31)) (andI .u32 by_ 31) := by
  rw [sum_9 hb, sum_10 hb]
theorem p_top {a : Int} (ha : U32 a) {t : Int} (ht : t % 32 = 31) : sumF 10 a t / 2 = 0 := by
  simp only [sumF, ht]
  have := ha.1; have := ha.2
  show a / 2 ^ 31 / 2 = 0
  omega
theorem p_low {a t : Int} (ha : U32 a) : sumF 11 a t / 2147483648 = sumF 12 a 0 := by
  simp only [sumF, w32]
  have := ha.1; have := ha.2
  have hp := pow_pos' (t % 32).toNat
  have e : s32 a = if 2147483648 ≤ a then a - 4294967296 else a := rfl
  have e0 : s32 0 = 0 := rfl
  rw [e0]
  by_cases h : 2147483648 ≤ a
  · rw [if_pos h] at e
    rw [e, if_pos (by omega)]
    have h1 : (a - 4294967296) / 2 ^ (t % 32).toNat < 0 := Int.ediv_neg_of_neg_of_pos (by omega) hp
    have h2 : -2147483648 ≤ (a - 4294967296) / 2 ^ (t % 32).toNat := by
      have : (-2147483648 : Int) ≤ a - 4294967296 := by omega
      refine Int.le_trans ?_ (Int.ediv_le_ediv hp this)
      exact Int.le_ediv_of_mul_le hp (by have : (1 : Int) ≤ 2 ^ (t % 32).toNat := hp; omega)
    omega
  · rw [if_neg h] at e
    rw [e, if_neg (by omega)]
    have h1 := Int.ediv_le_self (2 ^ (t % 32).toNat) ha.1
    have h2 := Int.ediv_nonneg ha.1 (Int.le_of_lt hp)
    omega
theorem p_low0 {a t : Int} (ha : U32 a) (h : sumF 12 a 0 = 0) : sumF 11 a t = a / 2 ^ (t % 32).toNat := by
  have := ha.1; have := ha.2
  have hp := pow_pos' (t % 32).toNat
  have h0 : ¬ s32 a < s32 0 := by intro hh; simp [sumF, hh] at h
  have e : s32 a = a := by unfold s32 at *; split <;> rename_i hh <;> simp_all; omega
  simp only [sumF, w32, e]
  have h1 := Int.ediv_le_self (2 ^ (t % 32).toNat) ha.1
  have h2 := Int.ediv_nonneg ha.1 (Int.le_of_lt hp)
  omega
end Go.Proofs.YtkljgpepogkgdaaDoor

namespace Go.Proofs.YtkljgpepogkgdaaDoor
open Go Go.Vex
theorem tmod_rng (a b : Int) (hb : 0 < b) : -b < a.tmod b ∧ a.tmod b < b := by
  rcases Int.le_total 0 a with h | h
  · rw [Int.tmod_eq_emod_of_nonneg h]
    have := Int.emod_nonneg a (show b ≠ 0 by omega)
    have := Int.emod_lt_of_pos a hb
    omega
  · obtain ⟨c, rfl⟩ : ∃ c, a = -c := ⟨-a, by omega⟩
    rw [Int.neg_tmod, Int.tmod_eq_emod_of_nonneg (by omega)]
    have := Int.emod_nonneg c (show b ≠ 0 by omega)
    have := Int.emod_lt_of_pos c hb
    omega
def oneB (w : Int) : BoardS := ⟨[w], [], [], [], 0, -1, false, [], [], [], [], 0, 0, 0, 0⟩
def oneB' (w pc : Int) : BoardS := ⟨[w], [], [], [], 0, -1, false, [102], [pc], [0], [0], 1, 0, 1, 1⟩
theorem step_one {s : RegS} (hs : s.on = false) (w : Int) {i : Ins} (hd : decF w = some i) : stepF s (oneB w) = execF i.op i.d i.a i.b i.imm (zero0 s) (oneB' w s.pc) 0 := by
  have ht : takes s ≠ true := by unfold takes; rw [hs]; simp
  rw [stepF, if_neg ht]
  unfold tailF
  have e0 : pick1 (oneB w).words (oneB w).nw = w := by simp [oneB, pick1, nextV]
  have e1 : pick1 (oneB w).faults (oneB w).nf = 0 := by simp [oneB, pick1, nextV]
  have e2 : pick1 (oneB w).cycles (oneB w).nc = 0 := by simp [oneB, pick1, nextV]
  have e3 : fetchS (oneB w) (zero0 s).pc = oneB' w s.pc := by simp [oneB, oneB', fetchS, costS, logS, zero0]
  simp only [e0, e1, e2, e3, hd]
  simp
theorem decf_abis {k : Nat} {imm w : Int} (hk : k = 32 ∨ k = 33 ∨ k = 34 ∨ k = 35 ∨ k = 36 ∨ k = 37) (h1 : -100000 ≤ imm) (h2 : imm < 100000) (hw : w = k * 67108864 + 9175040 + imm % 262144) : decF w = some ⟨k, 0, 2, 3, imm⟩ := by
  have e : (w / 67108864).toNat = k := by omega
  have f : formF k = 5 := by rcases hk with rfl | rfl | rfl | rfl | rfl | rfl <;> rfl
  unfold decF
  simp only [e, f]
  have a1 : x22 w = 2 := by unfold x22; omega
  have a2 : x18 w = 3 := by unfold x18; omega
  have a3 : s18 w = imm := by unfold s18; split <;> omega
  rw [a1, a2, a3]
theorem decf_jal {imm w : Int} (h1 : -100000 ≤ imm) (h2 : imm < 100000) (hw : w = 38 * 67108864 + 4194304 + imm % 4194304) : decF w = some ⟨38, 1, 0, 0, imm⟩ := by
  have e : (w / 67108864).toNat = 38 := by omega
  unfold decF
  simp only [e, formF]
  have a1 : x22 w = 1 := by unfold x22; omega
  have a3 : s22 w = imm := by unfold s22; split <;> omega
  rw [a1, a3]
theorem goes_br {s : RegS} (hs : s.on = false) {k : Nat} {imm w : Int} (hk : k = 32 ∨ k = 33 ∨ k = 34 ∨ k = 35 ∨ k = 36 ∨ k = 37) (h1 : -100000 ≤ imm) (h2 : imm < 100000) (hw : w = k * 67108864 + 9175040 + imm % 262144) :
    stepF s (oneB w) = ⟨resOk 0, { zero0 s with pc := if brF k (rgL (s.r.set 0 0) 2) (rgL (s.r.set 0 0) 3) then w32 (s.pc + 4 * imm) else w32 (s.pc + 4) }, oneB' w s.pc⟩ := by
  rw [step_one hs w (decf_abis hk h1 h2 hw)]
  rcases hk with rfl | rfl | rfl | rfl | rfl | rfl <;> rfl
theorem goes_jal {s : RegS} (hs : s.on = false) {imm w : Int} (h1 : -100000 ≤ imm) (h2 : imm < 100000) (hw : w = 38 * 67108864 + 4194304 + imm % 4194304) :
    stepF s (oneB w) = ⟨resOk 0, { zero0 s with r := setR (s.r.set 0 0) 1 (w32 (s.pc + 4)), pc := w32 (s.pc + 4 * imm) }, oneB' w s.pc⟩ := by
  rw [step_one hs w (decf_jal h1 h2 hw)]
  rfl
theorem br_opp {k : Nat} (hk : k = 32 ∨ k = 34 ∨ k = 36) (x y : Int) : brF (k + 1) x y = !brF k x y := by rcases hk with rfl | rfl | rfl <;> rfl
end Go.Proofs.YtkljgpepogkgdaaDoor

namespace Go.Proofs.YtkljgpepogkgdaaDoor
open Go Go.Vex
set_option maxRecDepth 20000
set_option maxHeartbeats 4000000
theorem BImp.rows0 {T : TypeId} {l : List SV} (w : Nat) (f : Nat → List SV) : BImp (.cells T l) (.cells T (.rows w (.ex 0) f :: l)) :=
  ⟨fun ρ addr o w' ⟨cs, h1, h2⟩ => ⟨cs, .cons [] cs rfl (.rows (by simp) (fun j hj => by simp at hj)) h1, h2⟩⟩
noncomputable def I12 : FnT := [(12, fi Tryd.f12 ⟨[], 0⟩), (16, fi Tryd.f16 ⟨[], 0⟩)]
theorem I12ok : FnsOk kit I12 := ⟨fo12 _, fo16 _, trivial⟩
theorem board_spec (words values cycles faults : List Int) (time line : Int) (odd : Bool) (mw mv mc mf cw cv cc cf : Nat) (h1 : words.length = mw) (h2 : values.length = mv) (h3 : cycles.length = mc) (h4 : faults.length = mf)
    (g1 : mw ≤ 35184372088800) (g2 : mv ≤ 35184372088800) (g3 : mc ≤ 17592186044400) (g4 : mf ≤ 17592186044400) :
    Spec1 kit 12 [.agg [.slc 0 0 1 (.lit 0) (.ex mw) (.ex cw), .slc 1 0 1 (.lit 0) (.ex mv) (.ex cv), .slc 2 0 1 (.lit 0) (.ex mc) (.ex cc), .slc 3 0 1 (.lit 0) (.ex mf) (.ex cf), .i .u64 (.ex time), .i .i64 (.ex line), .b (.ex odd)]]
      [intsB .u32 mw words, intsB .u32 mv values, intsB .i64 mc cycles, intsB .i64 mf faults] false (.p 5 (.at 0)) [intsB .u32 mw words, intsB .u32 mv values, intsB .i64 mc cycles, intsB .i64 mf faults]
      [boardB ⟨words, values, cycles, faults, time, line, odd, [], [], [], [], 0, 0, 0, 0⟩] := by
  refine Spec1.mk2 rfl fun F => ?_
  refine into I12ok 6 ?_
  conv => cbv
  refine ⟨eqN.rfl _, apOk.mk (by omega) (by omega), AllN.mk fun k1 hk1 => ?_⟩
  conv => cbv
  refine ⟨eqN.rfl _, apOk.mk (by omega) (by omega), AllN.mk fun k2 hk2 => ?_⟩
  conv => cbv
  refine ⟨eqN.rfl _, apOk.mk (by omega) (by omega), AllN.mk fun k3 hk3 => ?_⟩
  conv => cbv
  refine ⟨eqN.rfl _, apOk.mk (by omega) (by omega), AllN.mk fun k4 hk4 => ?_⟩
  conv => cbv
  refine ⟨apOk.mk (by omega) (by omega), AllN.mk fun k5 hk5 => ?_⟩
  conv => cbv
  refine LeOut2.imp (HImp.roInts 8 rfl) (LeOut2.imp (HImp.roInts 9 rfl) (LeOut2.imp (HImp.roInts 10 rfl) (LeOut2.imp (HImp.roInts 11 rfl) (LeOut2.imp (HImp.at 12 rfl (BImp.rows0 4 (logF [] [] [] []))) ?_))))
  refine LeOut2.imp (HImp.fold (S := boardSh _) 7 [8, 9, 10, 11, 12] (boardL ⟨words, values, cycles, faults, time, line, odd, [], [], [], [], 0, 0, 0, 0⟩ mw mv mc mf 0 k1 k2 k3 k4 k5) (by decide) ?_ ⟨mw, mv, mc, mf, 0, k1, k2, k3, k4, k5, ⟨h1, h2, h3, h4, rfl, rfl, rfl, rfl, hk5⟩, rfl⟩) ?_
  · conv => cbv
    exact ⟨⟨fun j _ => by cbv, trivial⟩, trivial⟩
  exact (LeOut.mk' [0, 1, 2, 3, 4, 7] (by decide) rfl id (by cbv) (by cbv)).two
end Go.Proofs.YtkljgpepogkgdaaDoor

namespace Go.Proofs.YtkljgpepogkgdaaDoor
open Go Go.Vex
/-- After n steps on a board. -/
structure BInv (W V Y F : List Int) (n : Nat) (b : BoardS) : Prop where
  w : b.words = W
  v : b.values = V
  y : b.cycles = Y
  f : b.faults = F
  time : 0 ≤ b.time ∧ b.time < 18446744073709551616
  lk : b.lk.length ≤ 3 * n
  nw : 0 ≤ b.nw ∧ b.nw ≤ n
  nv : 0 ≤ b.nv ∧ b.nv ≤ n
  nc : 0 ≤ b.nc ∧ b.nc ≤ 2 * n
  nf : 0 ≤ b.nf ∧ b.nf ≤ 2 * n
theorem setR_ok {s : RegS} (h : RegOk s) {d v : Int} (hv : U32 v) : ∀ z ∈ setR s.r d v, U32 z := by
  intro z hz
  unfold setR at hz
  rcases List.mem_or_eq_of_mem_set hz with hz | hz
  · rcases List.mem_or_eq_of_mem_set hz with hz | hz
    · exact h.all z hz
    · subst hz; exact hv
  · subst hz; exact ⟨by decide, by decide⟩
theorem ext_U {k : Nat} {v : Int} (hv : U32 v) : U32 (extF k v) := by
  unfold extF
  split
  · exact w32_ok _
  · unfold U32; omega
  · exact w32_ok _
  · unfold U32; omega
  · exact hv
theorem exec_reg (k : Nat) (d a b imm : Int) (s : RegS) (bd : BoardS) (cyc : Int) (h : RegOk s) (hv : ∀ z ∈ bd.values, U32 z) : RegOk (execF k d a b imm s bd cyc).regs := by
  have hp : U32 (w32 (s.pc + 4)) := w32_ok _
  have hpk : U32 (pick1 bd.values bd.nv) := by
    unfold pick1
    rw [List.getD_eq_getElem?_getD]
    cases e : bd.values[(nextV bd.nv bd.values.length).toNat]? with
    | none => exact ⟨by decide, by decide⟩
    | some z => exact hv z (List.mem_of_getElem? e)
  have key : ∀ (v pc : Int), U32 v → U32 pc → RegOk { s with r := setR s.r d v, pc := pc } := fun v pc h1 h2 => ⟨by simp [setR, h.len], setR_ok h h1, h2, h.vec, h.back⟩
  unfold execF
  simp only
  split
  · exact key _ _ (sum_U (rg_ok h _) (rg_ok h _)) hp
  split
  · exact key _ _ (sum_U (rg_ok h _) (w32_ok _)) hp
  split
  · exact key _ _ (w32_ok _) hp
  split
  · split
    · exact key _ _ (ext_U hpk) hp
    · exact h
  split
  · split
    · exact ⟨h.len, h.all, hp, h.vec, h.back⟩
    · exact h
  split
  · exact ⟨h.len, h.all, by simp only; split <;> exact w32_ok _, h.vec, h.back⟩
  split
  · exact key _ _ hp (w32_ok _)
  · exact key _ _ hp (w32_ok _)
  · exact ⟨h.len, h.all, hp, h.vec, h.back⟩
  · exact key _ _ (w32_ok _) hp
  · exact ⟨h.len, h.all, hp, h.vec, h.back⟩
  · exact ⟨h.len, h.all, hp, h.vec, h.back⟩
  · exact ⟨h.len, h.all, hp, h.vec, h.back⟩
  · split
    · exact ⟨h.len, h.all, h.back, h.vec, h.back⟩
    · exact h
  · exact ⟨h.len, h.all, hp, rg_ok h _, h.back⟩
  · exact h
  · exact ⟨h.len, h.all, hp, h.vec, h.back⟩
theorem tail_reg (s : RegS) (bd : BoardS) (h : RegOk s) (hv : ∀ z ∈ bd.values, U32 z) : RegOk (tailF s bd).regs := by
  unfold tailF
  simp only
  split
  · exact h
  split
  · exact h
  · refine exec_reg _ _ _ _ _ _ _ _ h ?_
    simp only [fetchS, costS, logS]; split <;> exact hv
theorem step_reg (s : RegS) (bd : BoardS) (h : RegOk s) (hv : ∀ z ∈ bd.values, U32 z) : RegOk (stepF s bd).regs := by
  unfold stepF
  split
  · split
    · refine ⟨by simp [h.len], ?_, h.vec, h.vec, h.pc⟩
      intro z hz
      rcases List.mem_or_eq_of_mem_set hz with hz | hz
      · exact (zero0_ok h).all z hz
      · subst hz; exact w32_ok _
    · refine tail_reg _ _ (zero0_ok h) ?_
      simp only [irqS, logS]; split <;> exact hv
  · exact tail_reg _ _ (zero0_ok h) hv
/-- What one call may add to a board. -/
structure BMid (W V Y F : List Int) (xl xw xv xc : Nat) (b : BoardS) : Prop where
  w : b.words = W
  v : b.values = V
  y : b.cycles = Y
  f : b.faults = F
  time : 0 ≤ b.time ∧ b.time < 18446744073709551616
  lk : b.lk.length ≤ xl
  nw : 0 ≤ b.nw ∧ b.nw ≤ xw
  nv : 0 ≤ b.nv ∧ b.nv ≤ xv
  nc : 0 ≤ b.nc ∧ b.nc ≤ xc
  nf : 0 ≤ b.nf ∧ b.nf ≤ xc
theorem exec_mid {W V Y F : List Int} {l nw nv nc : Nat} (k : Nat) (d a b imm : Int) (s : RegS) (bd : BoardS) (cyc : Int) (h : BMid W V Y F l nw nv nc bd) : BMid W V Y F (l + 1) nw (nv + 1) (nc + 1) (execF k d a b imm s bd cyc).bd := by
  obtain ⟨h1, h2, h3, h4, h5, h6, h7, h8, h9, h10⟩ := h
  have same : BMid W V Y F (l + 1) nw (nv + 1) (nc + 1) bd := ⟨h1, h2, h3, h4, h5, by omega, h7, by omega, by omega, by omega⟩
  unfold execF
  simp only
  split
  · exact same
  split
  · exact same
  split
  · exact same
  have hl : ∀ x y, BMid W V Y F (l + 1) nw (nv + 1) (nc + 1) (loadS bd x y) := by
    intro x y
    simp only [loadS, costS, logS]
    split
    · exact ⟨h1, h2, h3, h4, h5, by simp; omega, h7, by simp only; omega, by simp only; omega, by simp only; omega⟩
    · exact ⟨h1, h2, h3, h4, h5, by simp; omega, h7, by simp only; omega, by simp only; omega, by simp only; omega⟩
  have hs : ∀ x y z, BMid W V Y F (l + 1) nw (nv + 1) (nc + 1) (storeS bd x y z) := by
    intro x y z
    simp only [storeS, costS, logS]
    exact ⟨h1, h2, h3, h4, h5, by simp; omega, h7, by simp only; omega, by simp only; omega, by simp only; omega⟩
  split
  · split <;> exact hl _ _
  split
  · split <;> exact hs _ _ _
  split
  · exact same
  split
  · exact same
  · exact same
  · exact same
  · simp only [clockS, logS]
    exact ⟨h1, h2, h3, h4, by simp only [wrap_u64]; omega, by simp; omega, h7, by simp only; omega, by simp only; omega, by simp only; omega⟩
  · exact same
  · exact same
  · exact same
  · split <;> exact same
  · exact same
  · exact same
  · exact same
theorem fetch_mid {W V Y F : List Int} {l nw nv nc : Nat} (bd : BoardS) (pc : Int) (h : BMid W V Y F l nw nv nc bd) : BMid W V Y F (l + 1) (nw + 1) nv (nc + 1) (fetchS bd pc) := by
  obtain ⟨h1, h2, h3, h4, h5, h6, h7, h8, h9, h10⟩ := h
  simp only [fetchS, costS, logS]
  split
  · exact ⟨h1, h2, h3, h4, h5, by simp; omega, by simp only; omega, h8, by simp only; omega, by simp only; omega⟩
  · exact ⟨h1, h2, h3, h4, h5, by simp; omega, by simp only; omega, h8, by simp only; omega, by simp only; omega⟩
theorem irq_mid {W V Y F : List Int} {l nw nv nc : Nat} (bd : BoardS) (h : BMid W V Y F l nw nv nc bd) : BMid W V Y F (l + 1) nw nv nc (irqS bd) := by
  obtain ⟨h1, h2, h3, h4, h5, h6, h7, h8, h9, h10⟩ := h
  simp only [irqS, logS]
  split
  · exact ⟨h1, h2, h3, h4, h5, by simp; omega, h7, h8, h9, h10⟩
  · exact ⟨h1, h2, h3, h4, h5, by simp; omega, h7, h8, h9, h10⟩
theorem BMid.le {W V Y F : List Int} {l nw nv nc l' nw' nv' nc' : Nat} {b : BoardS} (h : BMid W V Y F l nw nv nc b) (a1 : l ≤ l') (a2 : nw ≤ nw') (a3 : nv ≤ nv') (a4 : nc ≤ nc') : BMid W V Y F l' nw' nv' nc' b := by
  obtain ⟨h1, h2, h3, h4, h5, h6, h7, h8, h9, h10⟩ := h
  exact ⟨h1, h2, h3, h4, h5, by omega, by omega, by omega, by omega, by omega⟩
theorem tail_mid {W V Y F : List Int} {l nw nv nc : Nat} (s : RegS) (bd : BoardS) (h : BMid W V Y F l nw nv nc bd) : BMid W V Y F (l + 2) (nw + 1) (nv + 1) (nc + 2) (tailF s bd).bd := by
  have h1 := fetch_mid bd s.pc h
  unfold tailF
  simp only
  split
  · exact h1.le (by omega) (by omega) (by omega) (by omega)
  split
  · exact h1.le (by omega) (by omega) (by omega) (by omega)
  · exact exec_mid _ _ _ _ _ _ _ _ h1
theorem step_inv {W V Y F : List Int} {n : Nat} (s : RegS) (bd : BoardS) (h : BInv W V Y F n bd) : BInv W V Y F (n + 1) (stepF s bd).bd := by
  obtain ⟨h1, h2, h3, h4, h5, h6, h7, h8, h9, h10⟩ := h
  have h0 : BMid W V Y F (3 * n) n n (2 * n) bd := ⟨h1, h2, h3, h4, h5, h6, h7, h8, by omega, by omega⟩
  have hm : BMid W V Y F (3 * n + 3) (n + 1) (n + 1) (2 * n + 2) (stepF s bd).bd := by
    unfold stepF
    split
    · split
      · exact (irq_mid bd h0).le (by omega) (by omega) (by omega) (by omega)
      · exact tail_mid _ _ (irq_mid bd h0)
    · exact (tail_mid _ _ h0).le (by omega) (by omega) (by omega) (by omega)
  obtain ⟨g1, g2, g3, g4, g5, g6, g7, g8, g9, g10⟩ := hm
  exact ⟨g1, g2, g3, g4, g5, by omega, by omega, by omega, by omega, by omega⟩
theorem BInv.okW {W V Y F : List Int} {n : Nat} {b : BoardS} (h : BInv W V Y F n b) (hn : n < 1000) (hW : ∀ z ∈ W, U32 z) (hV : ∀ z ∈ V, U32 z) (h1 : W.length < 4611686018427387904) (h2 : V.length < 4611686018427387904) (h3 : Y.length < 4611686018427387904) (h4 : F.length < 4611686018427387904) : BdOkW b := by
  obtain ⟨rfl, rfl, rfl, rfl, g5, g6, g7, g8, g9, g10⟩ := h
  exact ⟨⟨h1, h2, h3, h4, by omega, by omega, by omega, by omega⟩, by omega, g5, hV, hW, by omega⟩
end Go.Proofs.YtkljgpepogkgdaaDoor

namespace Go.Proofs.YtkljgpepogkgdaaDoor
open Go Go.Vex
set_option maxRecDepth 20000
set_option maxHeartbeats 4000000
noncomputable def I3 : FnT := [(3, fi Tryd.f3 ⟨[14, 1000021], 0⟩)]
noncomputable def I3t : FnT := [(11, fi Tryd.f11 ⟨[], 0⟩), (17, fi Tryd.f17 ⟨[], 0⟩)]
theorem I3tok : FnsOk kit I3t := ⟨fo11 _, fo17 _, trivial⟩
theorem I3ok : FnsOk kit I3 := ⟨fo3 _, trivial⟩
theorem step_first : stepF ⟨List.replicate 16 0, 8, 0, 0, false, false⟩ ⟨[943980543], [], [], [], 0, -1, false, [], [], [], [], 0, 0, 0, 0⟩ = ⟨⟨1, 1, 0, 0, 0, 0, false, 0, false, 0⟩, ⟨[0, 4294967295, 0, 0, 0, 0, 0, 0, 0, 0, 0, 0, 0, 0, 0, 0], 12, 0, 0, false, false⟩, ⟨[943980543], [], [], [], 0, -1, false, [102], [8], [0], [0], 1, 0, 1, 1⟩⟩ := by kernel_rfl
theorem steps_walk : opnArgs tab 9 [25, 31, 3] 1 (lawK 3 [.glob 0 layoutsL]) := by
  conv => cbv
  intro R hR1 hR2
  conv => cbv
  intro pc hpc
  conv => cbv
  intro vec hvec
  conv => cbv
  intro back hback
  conv => cbv
  intro on
  conv => cbv
  intro hdl
  conv => cbv
  intro n1 c1 W hW1 hW2 hW3 hW4 hW5
  conv => cbv
  intro n2 c2 V hV1 hV2 hV3 hV4 hV5
  conv => cbv
  intro n3 c3 Y hY1 hY2 hY3 hY4 hY5
  conv => cbv
  intro n4 c4 F hF1 hF2 hF3 hF4 hF5
  conv => cbv
  intro time htime
  conv => cbv
  intro line hline
  conv => cbv
  intro odd
  conv => cbv
  intro many hmany
  have h1 : n1 * 4 ≤ 140737488351232 := hW4
  have h2 : n2 * 4 ≤ 140737488351232 := hV4
  have h3 : n3 * 8 ≤ 140737488351232 := hY4
  have h4 : n4 * 8 ≤ 140737488351232 := hF4
  have htm : 0 ≤ time ∧ time < 18446744073709551616 := by
    have := htime
    simp [InK, Lit.wf, IntKind.min, IntKind.max, IntKind.bits, IntKind.signed] at this
    exact ⟨this.1, by omega⟩
  conv => cbv
  intro A
  refine OkCall.of2 ?_
  refine into I3ok 6 ?_
  conv => cbv
  refine OkCall.ext (HImp.toInts (k := .u32) 9 1 [.lit 943980543] rfl rfl).ext ?_
  refine OkCall.ext (HExt.nilFill 10 1 0 1 nilU rfl rfl nilU_ok) ?_
  refine OkCall.ext (HExt.nilFill 10 2 0 1 nilI rfl rfl nilI_ok) ?_
  refine OkCall.ext (HExt.nilFill 10 3 0 1 nilI rfl rfl nilI_ok) ?_
  refine OkCall.ext (HExt.nilFill 10 7 0 4 emptyRows rfl rfl emptyRows_ok) ?_
  refine OkCall.ext (HImp.fold (S := boardSh ⟨[943980543], [], [], [], 0, -1, false, [], [], [], [], 0, 0, 0, 0⟩) 10 [9, 11, 12, 13, 14] (boardL ⟨[943980543], [], [], [], 0, -1, false, [], [], [], [], 0, 0, 0, 0⟩ 1 0 0 0 0 1 0 0 0 0) (by decide) ?_ ⟨1, 0, 0, 0, 0, 1, 0, 0, 0, 0, ⟨rfl, rfl, rfl, rfl, rfl, rfl, rfl, rfl, Nat.le_refl _⟩, rfl⟩).ext ?_
  · conv => cbv
    exact ⟨⟨fun j _ => by cbv, by simp only [leafs], trivial⟩, trivial⟩
  refine OkCall.by_spec (step_spec ⟨List.replicate 16 0, 8, 0, 0, false, false⟩ ⟨[943980543], [], [], [], 0, -1, false, [], [], [], [], 0, 0, 0, 0⟩ (reg0 ⟨by decide, by decide⟩) (bdw0 (by decide) (by intro z hz; simp at hz; subst hz; exact ⟨by decide, by decide⟩) ⟨by decide, by decide⟩) _ step_first) [8, 10, 0] (by decide) (by cbv) (by cbv) ?_
  conv => cbv
  refine Br.no (by simp only [leafs]; rfl) ?_
  conv => cbv
  refine Br.no (by simp only [leafs]; rfl) ?_
  conv => cbv
  refine Br.no (by simp only [leafs]; rfl) ?_
  conv => cbv
  refine Br.no (by simp only [leafs]; rfl) ?_
  conv => cbv
  refine OkCall.by_spec (board_spec W V Y F time line odd n1 n2 n3 n4 c1 c2 c3 c4 hW1 hV1 hY1 hF1 (by omega) (by omega) (by omega) (by omega)) [1, 2, 3, 4] (by decide) (by cbv) (by cbv) ?_
  conv => cbv
  refine OkCall.by_spec (board_spec W V Y F time line odd n1 n2 n3 n4 c1 c2 c3 c4 hW1 hV1 hY1 hF1 (by omega) (by omega) (by omega) (by omega)) [1, 2, 3, 4] (by decide) (by cbv) (by cbv) ?_
  conv => cbv
  obtain ⟨v, hv⟩ : ∃ x, remI many 20 = x := ⟨_, rfl⟩
  have hv5 : -20 < v ∧ v < 20 := by have := tmod_rng many 20 (by decide); rw [← hv, remI_eq]; omega
  refine Obs.int (.ex v) hv.symm ?_
  conv => cbv
  obtain ⟨n, hn⟩ : ∃ n : Int, (if v < 0 then -v else v) = n := ⟨_, rfl⟩
  have hn0 : 0 ≤ n := by rw [← hn]; split <;> omega
  have hn1 : n < 20 := by rw [← hn]; split <;> omega
  refine Br.mk (fun hc => ?pos) (fun hc => ?neg)
  case' pos =>
    simp only [leafs, decide_eq_true_eq] at hc
    have hnv : n = -v := by rw [← hn, if_pos hc]
    clear hn
    conv => cbv
    refine Obs.int (.ex n) (by show n = subI .i64 0 v; rw [subI_eq, IntWalk.i64_in _ (by omega)]; omega) ?_
    conv => cbv
  case' neg =>
    simp only [leafs, decide_eq_false_iff_not] at hc
    have hnv : n = v := by rw [← hn, if_neg hc]
    subst hnv
    clear hn
    conv => cbv
  all_goals
    refine byInv I3ok 6 ⟨[14, 1000021], 0⟩ (fun a : Int × RegS × BoardS => ⟨[(15, .i .i64 (.ex a.1)), (14, .i .i64 (.ex n)), (13, .p 9 (.at 0)), (12, .p 8 (.at 0)), (11, .p 7 (.at 0)), (10, .p 6 (.at 0))],
      [.glob 0 layoutsL, .ro [.ints .u32 (.ex n1) W], .ro [.ints .u32 (.ex n2) V], .ro [.ints .i64 (.ex n3) Y], .ro [.ints .i64 (.ex n4) F], .abs A, .cells 25 (regL a.2.1), .cells 25 (regL a.2.1), boardB a.2.2, boardB a.2.2]⟩)
      (fun a => 20 - a.1.toNat) (fun a => 0 ≤ a.1 ∧ a.1 ≤ 20 ∧ RegOk a.2.1 ∧ BInv W V Y F a.1.toNat a.2.2) false (0, ⟨R, pc, vec, back, on, hdl⟩, ⟨W, V, Y, F, time, line, odd, [], [], [], [], 0, 0, 0, 0⟩) (by kernel_rfl)
      ⟨by simp, by simp, ⟨hR1, fun z hz => inK_u32 (hR2 z hz), inK_u32 hpc, inK_u32 hvec, inK_u32 hback⟩, ⟨rfl, rfl, rfl, rfl, htm, by simp, by simp, by simp, by simp, by simp⟩⟩
      (LeSt.mk' [0, 1, 2, 3, 4, 5, 17, 18, 20, 22] (by decide) rfl id (by cbv) (by cbv)) ?_
    rintro ⟨z, s, bd⟩ ⟨hz0, hz1, hs, hb⟩
    simp only at hz0 hz1 hs hb
    obtain ⟨o, ho⟩ : ∃ o, stepF s bd = o := ⟨_, rfl⟩
    have hbw : BdOkW bd := hb.okW (by omega) (fun z hz => inK_u32 (hW5 z hz)) (fun z hz => inK_u32 (hV5 z hz)) (by omega) (by omega) (by omega) (by omega)
    have hs1 := step_spec _ _ hs hbw o ho
    have hs2 := rstep_spec _ _ hs hbw o ho
    have hbn := step_inv s bd hb
    rw [ho] at hbn
    have hsn := step_reg s bd hs (fun z hz => by rw [hb.v] at hz; exact inK_u32 (hV5 z hz))
    rw [ho] at hsn
    have hlk : o.bd.lk.length ≤ 1000000 := by have := hbn.lk; omega
    have hs3 := same_spec o.bd o.bd hlk hlk (r := true) (by simp)
    obtain ⟨⟨kind', cyc', num', flt', addr', line', loaded', value', read', clk'⟩, ⟨r', pc', vec', back', on', hdl'⟩, bd'⟩ := o
    obtain ⟨r, pc1, vec1, back1, on1, hdl1⟩ := s
    clear ho hbw
    conv => cbv
    refine Br.mk (fun hd => ?_) (fun hd => ?_)
    · simp only [leafs, decide_eq_true_eq] at hd
      conv => cbv
      refine OkCall.by_spec hs1 [6, 8, 0] (by decide) (by cbv) (by cbv) ?_
      conv => cbv
      refine OkCall.by_spec hs2 [7, 9] (by decide) (by cbv) (by cbv) ?_
      conv => cbv
      refine OkCall.by_spec hs3 [8, 9] (by decide) (by cbv) (by cbv) ?_
      conv => cbv
      refine Br.no (by simp only [leafs]; simp) ?_
      conv => cbv
      refine Br.no (by simp only [leafs]; simp) ?_
      conv => cbv
      refine Br.no (by simp only [leafs]; rfl) ?_
      conv => cbv
      obtain ⟨z1, hz'⟩ : ∃ x, z + 1 = x := ⟨_, rfl⟩
      refine ⟨(z1, ⟨r', pc', vec', back', on', hdl'⟩, bd'), ⟨⟨by simp only; omega, by simp only; omega, hsn, by simp only; rw [show z1.toNat = z.toNat + 1 by omega]; exact hbn⟩, by simp only; omega⟩, _, (HImp.refl _).ext, LeSt.mk' (List.range 10) (by decide) rfl id ?_ ?_⟩
      · conv => cbv
        simp only [leafs]
        rw [IntWalk.i64_in _ (by omega)]
        exact ⟨hz'.symm, trivial⟩
      · conv => cbv
        trivial
    · conv => cbv
      refine kcode I3tok 6 ⟨[], 0⟩ (by kernel_rfl) ?_
      conv => cbv
      exact (LeOut.mk' (List.range 6) (by decide) rfl (by decide) (by cbv) (by cbv)).two
end Go.Proofs.YtkljgpepogkgdaaDoor

namespace Go.Proofs.YtkljgpepogkgdaaDoor.coreSteps
open Go.ChangeShapes Go.WideShapes Go.ChangeAt Go.RowKit Go.Vex
set_option maxRecDepth 100000
theorem contract (H : Type) (enc : TypeId × Value → H) (W : World) (base : Nat) (args : Array Value) (ds gs : List (DataW H)) (before : List MemPlace)
    (hval : ∀ (j : Nat) t v, Tryd.f3.params[j]? = some t → args[j]? = some v → Value.okWide Tryd.prog W .any base t v)
    (hW : DataW.Whole enc Tryd.prog Tryd.f3.params.toList Rows.coreStepsSpec.vars false W args.toList ds gs before)
    (hw : (DataW.weightsEach Tryd.prog (Tryd.f3.params.toList ++ []) (ds ++ gs)).all (· ≤ reachBytes) = true) (hlaid : laidMetH Tryd.prog Rows.coreStepsRow.laid W) :
    Calls Tryd.prog 3 args W fun e W' => ∃ v, e = .returned v ∧ Rows.coreStepsSpec.post enc Tryd.prog Tryd.f3 false true false false W args v W' := by
  have hpar : Tryd.f3.params.toList = [25, 31, 3] := by kernel_rfl
  have hW0 := hW
  obtain ⟨p, q, hA, hV, rfl, hfz, hnd⟩ := hW
  obtain ⟨rfl, rfl⟩ := trodVars_none hV
  rw [hpar] at hA hw
  simp only [List.append_nil] at hw
  have hlen := trodAll_len hA
  obtain ⟨d1, d2, d3, rfl⟩ : ∃ d1 d2 d3, ds = [d1, d2, d3] := by
    match ds, hlen with
    | [d1, d2, d3], _ => exact ⟨d1, d2, d3, rfl⟩
  have hwalk : opnArgs kit.T 9 [25, 31, 3] 1 (lawK 3 [.glob 0 layoutsL]) := by rw [kit_T]; exact steps_walk
  have hg := glob_init hlaid
  rw [← kit_P] at hA hw hval
  obtain ⟨ρ1, svs, hp1, k1, k2, k3⟩ := opnArgs_sound (C := kit) (base := base) 9 [25, 31, 3] 1 _ args.toList [d1, d2, d3] p hwalk hA
    (fun j t v e1 e2 => hval j t v (by rw [← Array.getElem?_toList, hpar]; exact e1) (by simpa using e2)) (by simpa [List.all_eq_true] using hw) [some (0, 0)] [.glob 0 layoutsL] hg rfl
  have hc := calls_of_ok (C := kit) (f := 3) (hp := [.glob 0 layoutsL] ++ hp1) (fun A => by simpa using k3 A) k2 k1
  rw [kit_P] at hc
  refine hc.mono fun e W' ⟨he, hb⟩ => ?_
  subst he
  refine ⟨_, rfl, ?_⟩
  have := post_still (C := kit) (enc := enc) (f := Tryd.f3) (s := Rows.coreStepsSpec) (apart := false) (fresh := true) (handsOn := false) (again := false) (ds := [d1, d2, d3]) (gs := []) (tb := 4) (args := args)
    (by rw [kit_P]; exact laidOut) (by rw [kit_P, hpar]; intro t ht; simp only [List.mem_cons, List.not_mem_nil, or_false] at ht; rcases ht with rfl | rfl | rfl <;> exact ⟨by kernel_rfl, of_decide_eq_true (by kernel_rfl)⟩)
    (by kernel_rfl) (by rw [kit_P]; kernel_rfl) rfl ⟨rfl, rfl, rfl⟩ (by rw [kit_P]; exact hW0) hb
  rw [kit_P] at this
  exact this
def wArgs : Array Value := #[.agg (Array.replicate 19 (.int .u32 0) ++ #[.bool false, .bool false]), .agg #[.slice none 0 0, .slice none 0 0, .slice none 0 0, .slice none 0 0, .int .u64 0, .int .i64 0, .bool false], .int .i64 0]
theorem laid_met (os : Os) : laidMet Tryd.prog Rows.coreStepsRow.laid ((laidWorld os).forCall (fun _ _ => 0) ⟨#[], wArgs, []⟩).memory :=
  laidMet_of_run' 8 (by kernel_rfl) (by kernel_rfl)
noncomputable def wData (H : Type) : List (DataW H) := [.agg (.agg (List.replicate 16 (.lit (.int .u32 0))) :: [.lit (.int .u32 0), .lit (.int .u32 0), .lit (.int .u32 0), .lit (.bool false), .lit (.bool false)]), .agg [.nil, .nil, .nil, .nil, .lit (.int .u64 0), .lit (.int .i64 0), .lit (.bool false)], .lit (.int .i64 0)]
theorem reads (os : Os) {H : Type} (enc : TypeId × Value → H) : ∃ places, DataW.whole enc Tryd.prog ((laidWorld os).forCall (fun _ _ => 0) ⟨#[], wArgs, []⟩).memory Tryd.f3.params.toList Rows.coreStepsSpec.vars false wArgs.toList 8 = some (wData H, [], places) :=
  ⟨[], by kernel_rfl⟩
theorem lifted (os : Os) (started : os.Started) (H : Type) (enc : TypeId × Value → H) (F : Stop.Interp) :
    ReturnsInHanded {} Tryd.checked os 3 .any ((OpenSpec.ofChange Rows.coreStepsSpec).preRow enc Tryd.prog Tryd.f3 Rows.coreStepsRow.domain false Rows.coreStepsRow.laid) (((OpenSpec.ofChange Rows.coreStepsSpec).at F).post enc Tryd.prog Tryd.f3 false true false false) := by
  obtain ⟨places, hx⟩ := reads os enc
  refine returnsInHanded_of_row (C := Tryd.checked) (s := OpenSpec.ofChange Rows.coreStepsSpec) own started (by kernel_rfl) Tryd.func3
    (witness_row_at (enc := enc) (C := Tryd.checked) false (laidWorld os) wArgs rfl (by kernel_rfl) (by kernel_rfl) (by kernel_rfl)
      (OpenSpec.preRow_of_cond 8 hx (by kernel_rfl) (fun k hk => by cases hk) (by kernel_rfl) (laid_met os))) ?_
  intro W base args ds gs before hval hW _ _ hw hlaid _ _
  exact contract H enc W base args ds gs before hval hW hw hlaid
theorem said : Rows.CoreStepsSaid :=
  OpenClaim.holds_of_cond 3 Tryd.f3 rfl rfl rfl rfl rfl rfl rfl ⟨rfl, rfl, rfl, rfl, rfl⟩ rfl rfl rfl rfl rfl (by kernel_rfl) Tryd.func3 (by kernel_rfl)
    (of_decide_eq_true (by kernel_rfl)) (by unfold Func.isWrapper; first | (rw [if_pos (by decide +kernel)]; kernel_rfl) | (rw [if_neg (by decide +kernel)]; exact ⟨rfl, rfl⟩))
    (fun os started H enc _ F => by rw [OpenClaim.pre_eq_preRow]; exact lifted os started H enc F)
theorem plain (f : FuncId) (fn : Func) (hf : Tryd.pinned.checked.prog.funcNamed "cloister/cloisterlaw12.CoreSteps" = some f) (hfn : Tryd.pinned.checked.prog.funcs[f]? = some fn) :
    false = Tryd.pinned.checked.prog.looks [] ∧ ∀ (j : Nat) t, fn.params[j]? = some t → Tryd.pinned.checked.prog.wantsStandIn t = false := by
  obtain rfl : f = 3 := Option.some.inj ((show Tryd.prog.funcNamed "cloister/cloisterlaw12.CoreSteps" = some 3 by kernel_rfl).symm.trans hf) |>.symm
  obtain rfl : fn = Tryd.f3 := (Option.some.inj (Tryd.func3.symm.trans hfn)).symm
  refine ⟨by kernel_rfl, fun j t ht => ?_⟩
  have hpar : Tryd.f3.params = #[25, 31, 3] := by kernel_rfl
  rw [hpar] at ht
  have hm := Array.mem_of_getElem? ht
  simp only [List.mem_toArray, List.mem_cons, List.not_mem_nil, or_false] at hm
  rcases hm with rfl | rfl | rfl
  · exact (show Tryd.prog.wantsStandIn 25 = false by kernel_rfl)
  · exact (show Tryd.prog.wantsStandIn 31 = false by kernel_rfl)
  · exact (show Tryd.prog.wantsStandIn 3 = false by kernel_rfl)
theorem card : Rows.CoreStepsCardSaid :=
  Claim7.holds_tied_plain_at .later [] _ _ _ _ said (fun _ h => by cases h) (by kernel_rfl) (fun _ h => by cases h) coreSteps_row_tie rfl ⟨rfl, rfl⟩ (by kernel_rfl) rfl plain (by kernel_rfl)
end Go.Proofs.YtkljgpepogkgdaaDoor.coreSteps
