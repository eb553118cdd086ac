/-
  Merged: RS RQ RU.
-/
import Derived.Test.YtkljgpepogkgdaaDoorRA
set_option linter.unusedVariables false
set_option linter.unusedSimpArgs false
namespace Go.Proofs.YtkljgpepogkgdaaDoor
open Go Go.Vex
set_option maxRecDepth 20000
set_option maxHeartbeats 4000000
noncomputable def tail13 : Code := (codeFrom 11 (fi Tryd.f13 ⟨[], 0⟩).body).getD .skip
theorem tail13_chk : drawsChk tail13 = true := by kernel_rfl
noncomputable def rtailSt (s : RegS) (bd : BoardS) (F : Option (Nat × Nat) → Own → World → Prop) (w cyc : Int) (flt : S Int) : St :=
  ⟨[(0, .p 0 (.at 0)), (1, .p 1 (.at 0)), (4, .p 3 (.at 0)), (7, .i .u32 (.ex w)), (8, .i .i64 (.ex cyc)), (9, .i .i64 flt)],
   [.cells 25 (regL s), boardB bd, .abs F, .cells 40 zeroRes]⟩
def rstepQ (F : Option (Nat × Nat) → Own → World → Prop) (res : ResS) (s : RegS) (bd : BoardS) (q : Bool) (v : SV) (hp : List Blk) : Prop :=
  LeOut2 3 q v hp false (.agg (resL res)) [.cells 25 (regL s), boardB bd, .abs F]
noncomputable abbrev RTailOk (s : RegS) (bd : BoardS) (F : Option (Nat × Nat) → Own → World → Prop) (w cyc : Int) (flt : S Int) (res : ResS) (s' : RegS) (bd' : BoardS) : Prop :=
  Ok kit (fi Tryd.f13 ⟨[], 0⟩).nt 3 tail13 false (rtailSt s bd F w cyc flt) (endS tab (fi Tryd.f13 ⟨[], 0⟩).res (rstepQ F res s' bd'))
abbrev ApIs (w : Int) (op : S Int) (x y z : Int) (n : Int) : Prop := Spec1 kit 32 [.i .u32 (.ex w)] [] false (.agg [.i .i64 op, .i .i64 (.ex x), .i .i64 (.ex y), .i .i64 (.ex z), .i .i64 (.ex n)]) [] []
noncomputable def I13 : FnT := [(33, fi Tryd.f33 ⟨[], 0⟩), (34, fi Tryd.f34 ⟨[], 0⟩), (35, fi Tryd.f35 ⟨[], 0⟩), (36, fi Tryd.f36 ⟨[], 0⟩), (37, fi Tryd.f37 ⟨[], 0⟩), (38, fi Tryd.f38 ⟨[], 0⟩), (39, fi Tryd.f39 ⟨[], 0⟩), (89, fi Tryd.f89 ⟨[], 0⟩), (90, fi Tryd.f90 ⟨[], 0⟩)]
theorem I13ok : FnsOk kit I13 := ⟨fo33 _, fo34 _, fo35 _, fo36 _, fo37 _, fo38 _, fo39 _, fo89 _, fo90 _, trivial⟩
noncomputable def I91 : FnT := [(91, fi Tryd.f91 ⟨[], 0⟩), (89, fi Tryd.f89 ⟨[], 0⟩)]
theorem I91ok : FnsOk kit I91 := ⟨fo91 _, fo89 _, trivial⟩
theorem conv_i64u {a : Int} (h : U32 a) : convI .i64 a = a := by rw [convI_eq, IntWalk.i64_in _ ⟨by have := h.1; omega, by have := h.2; omega⟩]
theorem sgn_spec {a s : Int} (h : U32 a) (hs : s32 a = s) : Spec1 kit 91 [.i .u32 (.ex a)] [] true (.i .i64 (.ex s)) [] [] := by
  refine Spec1.mk2 rfl fun F => ?_
  refine into I91ok 6 ?_
  conv => cbv
  have hc := conv_i64u h
  have h1 := h.1
  have h2 := h.2
  refine Br.mk (fun hb => ?_) (fun hb => ?_)
  · replace hb : leI 2147483648 (convI .i64 a) = true := hb
    rw [hc, leI_eq, decide_eq_true_eq] at hb
    conv => cbv
    refine LeOut.two (LeOut.mk' [0] (by decide) rfl id ?_ (by cbv))
    conv => cbv
    show s = subI .i64 (convI .i64 a) 4294967296
    rw [hc, subI_eq, IntWalk.i64_in _ (by omega), ← hs, s32, if_pos hb]
  · replace hb : leI 2147483648 (convI .i64 a) = false := hb
    rw [hc, leI_eq, decide_eq_false_iff_not] at hb
    conv => cbv
    refine LeOut.two (LeOut.mk' [0] (by decide) rfl id ?_ (by cbv))
    conv => cbv
    show s = convI .i64 a
    rw [hc, ← hs, s32, if_neg hb]
theorem setR_zero {r : List Int} (hz : r.set 0 0 = r) (v : Int) : setR r 0 v = r := by unfold setR; simp [hz]
theorem setR_ne {r : List Int} (hz : r.set 0 0 = r) {d : Int} (h0 : 0 ≤ d) (hd : d ≠ 0) (v : Int) : setR r d v = r.set d.toNat v := by
  unfold setR
  have : d.toNat ≠ 0 := by omega
  rw [List.set_comm _ _ this, hz]
end Go.Proofs.YtkljgpepogkgdaaDoor

namespace Go.Proofs.YtkljgpepogkgdaaDoor
open Go Go.Vex
set_option maxRecDepth 20000
set_option maxHeartbeats 4000000
theorem r31 {y : Int} (hy : U32 y) : remI y 32 = y % 32 := by rw [remI_eq]; exact Int.tmod_eq_emod_of_nonneg hy.1
theorem rshl {x y : Int} (hy : U32 y) : shlI .u32 x (remI y 32) = sumF 9 x y := by rw [← sum_9 hy, m31 hy, r31 hy]
theorem rshr {x y : Int} (hy : U32 y) : shrI .u32 x (remI y 32) = sumF 10 x y := by rw [← sum_10 hy, m31 hy, r31 hy]
theorem shr_e {x y : Int} (hy : U32 y) : shrI .u32 x (remI y 32) = x / 2 ^ (y % 32).toNat := by rw [rshr hy]; rfl
theorem pow_le32 (m : Nat) (h : m < 32) : (2 : Int) ^ m ≤ 2147483648 ∧ (2 : Int) ^ m ∣ 4294967296 := by
  have e : m = 0 ∨ m = 1 ∨ m = 2 ∨ m = 3 ∨ m = 4 ∨ m = 5 ∨ m = 6 ∨ m = 7 ∨ m = 8 ∨ m = 9 ∨ m = 10 ∨ m = 11 ∨ m = 12 ∨ m = 13 ∨ m = 14 ∨ m = 15 ∨ m = 16 ∨ m = 17 ∨ m = 18 ∨ m = 19 ∨ m = 20 ∨ m = 21 ∨ m = 22 ∨ m = 23 ∨ m = 24 ∨ m = 25 ∨ m = 26 ∨ m = 27 ∨ m = 28 ∨ m = 29 ∨ m = 30 ∨ m = 31 := by omega
  rcases e with h | h | h | h | h | h | h | h | h | h | h | h | h | h | h | h | h | h | h | h | h | h | h | h | h | h | h | h | h | h | h | h <;> subst h <;> decide
theorem rsar_y {x y : Int} (hx : U32 x) (hy : U32 y) (h : 2147483648 ≤ x) : addI .u32 (shrI .u32 x (remI y 32)) (subI .u32 4294967295 (shrI .u32 4294967295 (remI y 32))) = sumF 11 x y := by
  rw [shr_e hy, shr_e hy, addI_eq, subI_eq, wrap_u32, wrap_u32]
  simp only [sumF, w32, s32, if_pos h]
  have hm : (y % 32).toNat < 32 := by omega
  obtain ⟨h1, h2⟩ := pow_le32 _ hm
  have hp := pow_pos' (y % 32).toNat
  generalize (2 : Int) ^ (y % 32).toNat = p at *
  obtain ⟨c, hc⟩ := h2
  have e1 : (x - 4294967296) / p = x / p - c := by
    rw [hc, Int.sub_mul_ediv_left _ _ (by omega)]
  have e2 : (4294967295 : Int) / p = c - 1 := by
    rw [show (4294967295 : Int) = -1 + p * c by omega, Int.add_mul_ediv_left _ _ (by omega)]
    have : (-1 : Int) / p = -1 := by
      rcases Int.lt_or_eq_of_le (show 1 ≤ p by omega) with h | h
      · exact Int.ediv_eq_neg_one_of_neg_of_le (by omega) (by omega)
      · rw [← h]; decide
    omega
  rw [e1, e2]
  omega
theorem rsar_n {x y : Int} (hx : U32 x) (hy : U32 y) (h : ¬ 2147483648 ≤ x) : shrI .u32 x (remI y 32) = sumF 11 x y := by
  rw [shr_e hy]
  simp only [sumF, w32, s32, if_neg h]
  have hp := pow_pos' (y % 32).toNat
  have h1 := Int.ediv_le_self (2 ^ (y % 32).toNat) hx.1
  have h2 := Int.ediv_nonneg hx.1 (Int.le_of_lt hp)
  have := hx.2
  omega
theorem rsum_1 {x y z : Int} (hx : U32 x) (hy : U32 y) (hz : z = sumF 1 x y) {hp : List Blk} {K : SV → Prop} (hK : K (.i .u32 (.ex z))) : QCall kit 34 [.i .i64 (.lit 0), .i .u32 (.ex x), .i .u32 (.ex y)] hp K := by
  refine QCall.of_call _ rfl (into I13ok 6 ?_) hK
  conv => cbv
  show z = addI .u32 x y
  rw [hz, sum_1]
theorem rsum_2 {x y z : Int} (hx : U32 x) (hy : U32 y) (hz : z = sumF 2 x y) {hp : List Blk} {K : SV → Prop} (hK : K (.i .u32 (.ex z))) : QCall kit 34 [.i .i64 (.lit 1), .i .u32 (.ex x), .i .u32 (.ex y)] hp K := by
  refine QCall.of_call _ rfl (into I13ok 6 ?_) hK
  conv => cbv
  show z = subI .u32 x y
  rw [hz, sum_2]
theorem rsum_3 {x y z : Int} (hx : U32 x) (hy : U32 y) (hz : z = sumF 3 x y) {hp : List Blk} {K : SV → Prop} (hK : K (.i .u32 (.ex z))) : QCall kit 34 [.i .i64 (.lit 2), .i .u32 (.ex x), .i .u32 (.ex y)] hp K := by
  refine QCall.of_call _ rfl (into I13ok 6 ?_) hK
  conv => cbv
  show z = mulI .u32 x y
  rw [hz, sum_3]
theorem rsum_4 {x y z : Int} (hx : U32 x) (hy : U32 y) (hz : z = sumF 4 x y) {hp : List Blk} {K : SV → Prop} (hK : K (.i .u32 (.ex z))) : QCall kit 34 [.i .i64 (.lit 3), .i .u32 (.ex x), .i .u32 (.ex y)] hp K := by
  refine QCall.of_call _ rfl (into I13ok 6 ?_) hK
  conv => cbv
  refine Br.mk (fun hc => ?_) (fun hc => ?_)
  · replace hc : eqI y 0 = true := hc
    rw [eqI_eq, beq_iff_eq] at hc
    conv => cbv
    show z = 4294967295
    rw [hz, sumF, if_pos hc]
  · replace hc : eqI y 0 = false := hc
    rw [eqI_eq, beq_eq_false_iff_ne] at hc
    conv => cbv
    refine And.intro (neZ.mk hc) ?_
    conv => cbv
    show z = quoI .u32 x y
    rw [hz, sum_4 hx hy hc]
theorem rsum_5 {x y z : Int} (hx : U32 x) (hy : U32 y) (hz : z = sumF 5 x y) {hp : List Blk} {K : SV → Prop} (hK : K (.i .u32 (.ex z))) : QCall kit 34 [.i .i64 (.lit 4), .i .u32 (.ex x), .i .u32 (.ex y)] hp K := by
  refine QCall.of_call _ rfl (into I13ok 6 ?_) hK
  conv => cbv
  refine Br.mk (fun hc => ?_) (fun hc => ?_)
  · replace hc : eqI y 0 = true := hc
    rw [eqI_eq, beq_iff_eq] at hc
    conv => cbv
    show z = x
    rw [hz, sumF, if_pos hc]
  · replace hc : eqI y 0 = false := hc
    rw [eqI_eq, beq_eq_false_iff_ne] at hc
    conv => cbv
    refine And.intro (neZ.mk hc) ?_
    conv => cbv
    show z = remI x y
    rw [hz, sum_5 hx hc]
theorem rsum_6 {x y z : Int} (hx : U32 x) (hy : U32 y) (hz : z = sumF 6 x y) {hp : List Blk} {K : SV → Prop} (hK : K (.i .u32 (.ex z))) : QCall kit 34 [.i .i64 (.lit 5), .i .u32 (.ex x), .i .u32 (.ex y)] hp K := by
  refine QCall.of_call _ rfl (into I13ok 6 ?_) hK
  conv => cbv
  show z = andI .u32 x y
  rw [hz, sum_6 hx hy]
theorem rsum_7 {x y z : Int} (hx : U32 x) (hy : U32 y) (hz : z = sumF 7 x y) {hp : List Blk} {K : SV → Prop} (hK : K (.i .u32 (.ex z))) : QCall kit 34 [.i .i64 (.lit 6), .i .u32 (.ex x), .i .u32 (.ex y)] hp K := by
  refine QCall.of_call _ rfl (into I13ok 6 ?_) hK
  conv => cbv
  show z = orI .u32 x y
  rw [hz, sum_7 hx hy]
theorem rsum_8 {x y z : Int} (hx : U32 x) (hy : U32 y) (hz : z = sumF 8 x y) {hp : List Blk} {K : SV → Prop} (hK : K (.i .u32 (.ex z))) : QCall kit 34 [.i .i64 (.lit 7), .i .u32 (.ex x), .i .u32 (.ex y)] hp K := by
  refine QCall.of_call _ rfl (into I13ok 6 ?_) hK
  conv => cbv
  show z = xorI .u32 x y
  rw [hz, sum_8 hx hy]
theorem rsum_9 {x y z : Int} (hx : U32 x) (hy : U32 y) (hz : z = sumF 9 x y) {hp : List Blk} {K : SV → Prop} (hK : K (.i .u32 (.ex z))) : QCall kit 34 [.i .i64 (.lit 8), .i .u32 (.ex x), .i .u32 (.ex y)] hp K := by
  refine QCall.of_call _ rfl (into I13ok 6 ?_) hK
  conv => cbv
  refine And.intro (geZ.mk (by show 0 ≤ remI y 32; rw [r31 hy]; omega)) ?_
  conv => cbv
  show z = shlI .u32 x (remI y 32)
  rw [hz, rshl hy]
theorem rsum_10 {x y z : Int} (hx : U32 x) (hy : U32 y) (hz : z = sumF 10 x y) {hp : List Blk} {K : SV → Prop} (hK : K (.i .u32 (.ex z))) : QCall kit 34 [.i .i64 (.lit 9), .i .u32 (.ex x), .i .u32 (.ex y)] hp K := by
  refine QCall.of_call _ rfl (into I13ok 6 ?_) hK
  conv => cbv
  refine And.intro (geZ.mk (by show 0 ≤ remI y 32; rw [r31 hy]; omega)) ?_
  conv => cbv
  show z = shrI .u32 x (remI y 32)
  rw [hz, rshr hy]
theorem rsum_11 {x y z : Int} (hx : U32 x) (hy : U32 y) (hz : z = sumF 11 x y) {hp : List Blk} {K : SV → Prop} (hK : K (.i .u32 (.ex z))) : QCall kit 34 [.i .i64 (.lit 10), .i .u32 (.ex x), .i .u32 (.ex y)] hp K := by
  refine QCall.of_call _ rfl (into I13ok 6 ?_) hK
  conv => cbv
  refine And.intro (geZ.mk (by show 0 ≤ remI y 32; rw [r31 hy]; omega)) ?_
  refine Br.mk (fun hc => ?_) (fun hc => ?_)
  · replace hc : leI 2147483648 x = true := hc
    rw [leI_eq, decide_eq_true_eq] at hc
    conv => cbv
    refine And.intro (geZ.mk (by show 0 ≤ remI y 32; rw [r31 hy]; omega)) ?_
    conv => cbv
    show z = addI .u32 (shrI .u32 x (remI y 32)) (subI .u32 4294967295 (shrI .u32 4294967295 (remI y 32)))
    rw [hz, rsar_y hx hy hc]
  · replace hc : leI 2147483648 x = false := hc
    rw [leI_eq, decide_eq_false_iff_not] at hc
    conv => cbv
    show z = shrI .u32 x (remI y 32)
    rw [hz, rsar_n hx hy hc]
theorem rsum_12 {x y z : Int} (hx : U32 x) (hy : U32 y) (hz : z = sumF 12 x y) {hp : List Blk} {K : SV → Prop} (hK : K (.i .u32 (.ex z))) : QCall kit 34 [.i .i64 (.lit 11), .i .u32 (.ex x), .i .u32 (.ex y)] hp K := by
  refine QCall.of_call _ rfl (into I13ok 6 ?_) hK
  conv => cbv
  refine OkCall.by_spec (sgn_spec hx rfl) [] (by decide) (by cbv) trivial ?_
  generalize ha : s32 x = a
  conv => cbv
  refine OkCall.by_spec (sgn_spec hy rfl) [] (by decide) (by cbv) trivial ?_
  generalize hb : s32 y = b
  conv => cbv
  refine Br.mk (fun hc => ?_) (fun hc => ?_)
  · replace hc : ltI a b = true := hc
    rw [ltI_eq, decide_eq_true_eq] at hc
    conv => cbv
    rw [hz, sumF, ha, hb, if_pos hc]
  · replace hc : ltI a b = false := hc
    rw [ltI_eq, decide_eq_false_iff_not] at hc
    conv => cbv
    rw [hz, sumF, ha, hb, if_neg hc]
theorem rsum_13 {x y z : Int} (hx : U32 x) (hy : U32 y) (hz : z = sumF 13 x y) {hp : List Blk} {K : SV → Prop} (hK : K (.i .u32 (.ex z))) : QCall kit 34 [.i .i64 (.lit 12), .i .u32 (.ex x), .i .u32 (.ex y)] hp K := by
  refine QCall.of_call _ rfl (into I13ok 6 ?_) hK
  conv => cbv
  refine Br.mk (fun hc => ?_) (fun hc => ?_)
  · replace hc : ltI x y = true := hc
    conv => cbv
    rw [hz, sum_13y hc]
  · replace hc : ltI x y = false := hc
    conv => cbv
    rw [hz, sum_13n hc]
end Go.Proofs.YtkljgpepogkgdaaDoor

namespace Go.Proofs.YtkljgpepogkgdaaDoor
open Go Go.Vex
theorem lui_r {n : Int} : mulI .u32 (convI .u32 n) 16384 = w32 (n * 16384) := by
  rw [mulI_eq, conv_imm, wrap_u32]; unfold w32; omega
theorem brR (pc n : Int) : addI .u32 pc (mulI .u32 4 (convI .u32 n)) = w32 (pc + 4 * n) := by
  rw [addI_eq, mulI_eq, conv_imm, wrap_u32, wrap_u32]; unfold w32; omega
theorem clk_r {t : Int} (h : 0 ≤ t ∧ t < 18446744073709551616) : convI .u32 (remI t 4294967296) = w32 t := by
  rw [conv_imm, remI_eq, Int.tmod_eq_emod_of_nonneg h.1]; unfold w32; omega
theorem brr_34 {x y a b : Int} (ha : s32 x = a) (hb : s32 y = b) : ltI a b = brF 34 x y := by rw [ltI_eq, ← ha, ← hb]; rfl
theorem brr_35 {x y a b : Int} (ha : s32 x = a) (hb : s32 y = b) : leI b a = brF 35 x y := by
  rw [leI_eq, ← ha, ← hb]; unfold brF; rw [Bool.eq_iff_iff]; simp
theorem rem64 {v : Int} (h : U32 v) (m : Int) : remI (convI .i64 v) m = v % m := by
  rw [conv_i64u h, remI_eq, Int.tmod_eq_emod_of_nonneg h.1]
theorem rext_24y {v : Int} (h : U32 v) (hb : leI 128 (remI (convI .i64 v) 256) = true) : convI .u32 (subI .i64 (remI (convI .i64 v) 256) 256) = extF 24 v := by
  rw [rem64 h] at *; rw [leI_eq, decide_eq_true_eq] at hb
  rw [conv_imm, subI_eq, IntWalk.i64_in _ (by omega)]; unfold extF; simp only [if_pos hb]
theorem rext_24n {v : Int} (h : U32 v) (hb : leI 128 (remI (convI .i64 v) 256) = false) : convI .u32 (remI (convI .i64 v) 256) = extF 24 v := by
  rw [rem64 h] at *; rw [leI_eq, decide_eq_false_iff_not] at hb
  rw [conv_imm]; unfold extF; simp only [if_neg hb]
theorem rext_26y {v : Int} (h : U32 v) (hb : leI 32768 (remI (convI .i64 v) 65536) = true) : convI .u32 (subI .i64 (remI (convI .i64 v) 65536) 65536) = extF 26 v := by
  rw [rem64 h] at *; rw [leI_eq, decide_eq_true_eq] at hb
  rw [conv_imm, subI_eq, IntWalk.i64_in _ (by omega)]; unfold extF; simp only [if_pos hb]
theorem rext_26n {v : Int} (h : U32 v) (hb : leI 32768 (remI (convI .i64 v) 65536) = false) : convI .u32 (remI (convI .i64 v) 65536) = extF 26 v := by
  rw [rem64 h] at *; rw [leI_eq, decide_eq_false_iff_not] at hb
  rw [conv_imm]; unfold extF; simp only [if_neg hb]
theorem rext_25 {v : Int} (h : U32 v) : convI .u32 (remI (convI .i64 v) 256) = extF 25 v := by
  rw [rem64 h, conv_imm]; unfold extF w32; simp only; omega
theorem rext_27 {v : Int} (h : U32 v) : convI .u32 (remI (convI .i64 v) 65536) = extF 27 v := by
  rw [rem64 h, conv_imm]; unfold extF w32; simp only; omega
theorem rext_28 {v : Int} (h : U32 v) : convI .u32 (convI .i64 v) = extF 28 v := by
  rw [conv_i64u h, conv_imm]; unfold extF w32; simp only; have := h.1; have := h.2; omega
theorem rmsk_1 {v : Int} (h : U32 v) : remI v 256 = v % 256 := by rw [remI_eq, Int.tmod_eq_emod_of_nonneg h.1]
theorem rmsk_2 {v : Int} (h : U32 v) : remI v 65536 = v % 65536 := by rw [remI_eq, Int.tmod_eq_emod_of_nonneg h.1]
theorem rmsk_4 {v : Int} (h : U32 v) : v = v % 4294967296 := by have := h.1; have := h.2; omega
end Go.Proofs.YtkljgpepogkgdaaDoor
