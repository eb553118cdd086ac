/-
  Joined: M1 M2 M3 M4 E1 E2 A1 T1 T2 N1 R1 R3 R2.
-/
import Derived.Test.YtnefllaeleihcaaZ4
import Derived.IntWalk
import Derived.Test.YtnefllaeleihcaaZ3
set_option linter.unusedVariables false
set_option linter.unusedSimpArgs false
/-
  memory: words loaded and stored, pages filled.
-/
section
namespace Go.Proofs.Ytnefllaeleihcaa
open Go Go.Vex
set_option maxRecDepth 20000
set_option maxHeartbeats 4000000
theorem mt135 : MapT kit 135 27 156 (.int .u32) (.pointer none) := ⟨by rw [kit_P]; kernel_rfl, by rw [kit_P]; kernel_rfl, by rw [kit_P]; kernel_rfl⟩
theorem ku27 : KeyT kit 27 (Value.int .u32) := KeyT.int (k' := .u32) (by rw [kit_P]; kernel_rfl)
theorem u175 : kit.P.underlying 143 = some (.slice 5) := by rw [kit_P]; kernel_rfl
theorem s5 : (kit.P.info? 5).map (·.size) = some 1 := by rw [kit_P]; kernel_rfl
/-- The byte at an address. -/
def bytesOf (kvs : List (Int × List Int)) (a : Int) : Int :=
  match pidx (a / 4096) kvs 0 with
  | none => 0
  | some j => ((kvs.getD j (0, [])).2).getD (a % 4096).toNat 0
def PgOk (kvs : List (Int × List Int)) : Prop := ∀ x ∈ kvs, x.2.length = 4096 ∧ ∀ z ∈ x.2, 0 ≤ z ∧ z < 256
def memSh (n : Int) (f : Int → Int) (l : List Blk) : Prop := ∃ kvs, PgOk kvs ∧ (∀ a, bytesOf kvs a = f a) ∧ l = [.cells 137 [.i .i64 (.ex n), .map 1], .abs (PM 158 kvs)]
abbrev memB (n : Int) (f : Int → Int) : Blk := .pk (memSh n f)
def wordErr (n at_ : Int) : Int := if at_ % 4 ≠ 0 then 21 else if n * 4096 - 4 < at_ then 22 else 0
def w32f (f : Int → Int) (at_ : Int) : Int := f at_ + 256 * f (at_ + 1) + 65536 * f (at_ + 2) + 16777216 * f (at_ + 3)
noncomputable def I37 : FnT := [(37, fi Try.f37 ⟨[], 5⟩), (58, fi Try.f58 ⟨[], 0⟩), (81, fi Try.f81 ⟨[], 0⟩), (70, fi Try.f70 ⟨[], 0⟩), (82, fi Try.f82 ⟨[7, 8], 2⟩), (92, fi Try.f92 ⟨[], 0⟩)]
theorem I37ok : FnsOk kit I37 := ⟨fo37 _, fo58 _, fo81 _, fo70 _, fo82 _, fo92 _, trivial⟩
theorem PgOk.len {kvs : List (Int × List Int)} (h : PgOk kvs) : ∀ (i : Nat) key l, kvs[i]? = some (key, l) → l.length = (S.lit 4096).val := fun i key l hi => (h _ (List.mem_of_getElem? hi)).1
theorem bytes_none {kvs : List (Int × List Int)} {k a : Int} (hk : a / 4096 = k) (h : pidx k kvs 0 = none) : bytesOf kvs a = 0 := by unfold bytesOf; rw [hk, h]
theorem bytes_some {kvs : List (Int × List Int)} {k a : Int} {i : Nat} {l : List Int} (hk : a / 4096 = k) (h : pidx k kvs 0 = some i) (hi : kvs[i]? = some (k, l)) : bytesOf kvs a = l.getD (a % 4096).toNat 0 := by
  unfold bytesOf; rw [hk, h]; simp [List.getD_eq_getElem?_getD, hi]
theorem take4 {l : List Int} {o : Nat} (h : o + 4 ≤ l.length) : (l.drop o).take 4 = [l.getD o 0, l.getD (o + 1) 0, l.getD (o + 2) 0, l.getD (o + 3) 0] := by
  apply List.ext_getElem?
  intro j
  by_cases hj : j < 4
  · rw [List.getElem?_take_of_lt hj, List.getElem?_drop]
    have : j = 0 ∨ j = 1 ∨ j = 2 ∨ j = 3 := by omega
    rcases this with rfl | rfl | rfl | rfl <;> simp only [List.getElem?_cons_zero, List.getElem?_cons_succ, List.getD_eq_getElem?_getD, Nat.add_zero] <;> rw [List.getElem?_eq_getElem (by omega)] <;> rfl
  · rw [List.getElem?_eq_none (by simp; omega), List.getElem?_eq_none (by simp; omega)]
theorem or_hi (k : Nat) (x c : Int) (hk : k ≤ 32) (h0 : 0 ≤ x) (h1 : x < (2 ^ k : Nat)) (c0 : 0 ≤ c) (hb : (2 ^ k : Nat) * c < 4294967296) : orI .u32 x ((2 ^ k : Nat) * c) = x + (2 ^ k : Nat) * c := by
  obtain ⟨n, rfl⟩ := Int.eq_ofNat_of_zero_le h0
  obtain ⟨m, rfl⟩ := Int.eq_ofNat_of_zero_le c0
  have hn : n < 2 ^ k := by omega
  have hm : 2 ^ k * m < 2 ^ 32 := by
    have : ((2 ^ k * m : Nat) : Int) < 4294967296 := by rw [Int.natCast_mul]; exact hb
    omega
  have h32 : n < 2 ^ 32 := Nat.lt_of_lt_of_le hn (Nat.pow_le_pow_right (by decide) hk)
  rw [← Int.natCast_mul, or_u32 h32 hm, Nat.or_comm, ← Nat.two_pow_add_eq_or_of_lt hn m]
  simp [Int.add_comm]
theorem w_of {b0 b1 b2 b3 : Int} (h0 : 0 ≤ b0 ∧ b0 < 256) (h1 : 0 ≤ b1 ∧ b1 < 256) (h2 : 0 ≤ b2 ∧ b2 < 256) (h3 : 0 ≤ b3 ∧ b3 < 256) :
    orI .u32 (orI .u32 (orI .u32 (orI .u32 0 (shlI .u32 (convI .u32 b0) 0)) (shlI .u32 (convI .u32 b1) 8)) (shlI .u32 (convI .u32 b2) 16)) (shlI .u32 (convI .u32 b3) 24) = b0 + 256 * b1 + 65536 * b2 + 16777216 * b3 := by
  have c : ∀ b : Int, 0 ≤ b ∧ b < 256 → convI .u32 b = b := fun b h => by rw [convI_eq, wrap_u32]; omega
  rw [c b0 h0, c b1 h1, c b2 h2, c b3 h3]
  have s0 : shlI .u32 b0 0 = ((2 ^ 0 : Nat) : Int) * b0 := by rw [shlI_eq, wrap_u32]; show b0 * 1 % _ = _; omega
  have s1 : shlI .u32 b1 8 = ((2 ^ 8 : Nat) : Int) * b1 := by rw [shlI_eq, wrap_u32]; show b1 * 256 % _ = _; omega
  have s2 : shlI .u32 b2 16 = ((2 ^ 16 : Nat) : Int) * b2 := by rw [shlI_eq, wrap_u32]; show b2 * 65536 % _ = _; omega
  have s3 : shlI .u32 b3 24 = ((2 ^ 24 : Nat) : Int) * b3 := by rw [shlI_eq, wrap_u32]; show b3 * 16777216 % _ = _; omega
  rw [s0, s1, s2, s3, or_hi 0 0 b0 (by decide) (by omega) (by decide) (by omega) (by omega), or_hi 8 _ b1 (by decide) (by omega) (by omega) (by omega) (by omega), or_hi 16 _ b2 (by decide) (by omega) (by omega) (by omega) (by omega), or_hi 24 _ b3 (by decide) (by omega) (by omega) (by omega) (by omega)]
  omega
theorem load4_spec (n at_ : Int) (f : Int → Int) (hn : 1 ≤ n ∧ n ≤ 4096) (ha : 0 ≤ at_ ∧ at_ < 4294967296) {e v : Int} (he : e = wordErr n at_) (hv : v = if e = 0 then w32f f at_ else 0) :
    Spec1 kit 37 [.p 0 (.at 0), .i .u32 (.ex at_), .i .i64 (.lit 4)] [memB n f] false (.tup [.i .u32 (.ex v), .i .i64 (.ex e)]) [memB n f] [] := by
  refine Spec1.mk2 rfl fun F => OkCall.unfold 0 rfl (CallOk.of (fo37 ⟨[], 0⟩)) ?_
  rintro l ⟨kvs, hpg, hf, rfl⟩
  obtain ⟨k, hk⟩ : ∃ k, at_ / 4096 = k := ⟨_, rfl⟩
  obtain ⟨o, ho⟩ : ∃ o, at_ % 4096 = o := ⟨_, rfl⟩
  obtain ⟨t, ht⟩ : ∃ t, o + 4 = t := ⟨_, rfl⟩
  obtain ⟨b0, hb0⟩ : ∃ b, f at_ = b := ⟨_, rfl⟩
  obtain ⟨b1, hb1⟩ : ∃ b, f (at_ + 1) = b := ⟨_, rfl⟩
  obtain ⟨b2, hb2⟩ : ∃ b, f (at_ + 2) = b := ⟨_, rfl⟩
  obtain ⟨b3, hb3⟩ : ∃ b, f (at_ + 3) = b := ⟨_, rfl⟩
  obtain ⟨bs, hbs⟩ : ∃ bs, [b0, b1, b2, b3] = bs := ⟨_, rfl⟩
  refine into I37ok 6 ?_
  conv => cbv
  have hrem : remI at_ 4 = at_ % 4 := by rw [remI_eq]; exact Int.tmod_eq_emod_of_nonneg ha.1
  refine Br.mk (fun hc => ?_) (fun hc => ?_)
  · have h : notB (eqI (remI at_ 4) 0) = true := hc
    rw [notB_eq, eqI_eq, hrem] at h
    have h : at_ % 4 ≠ 0 := by simpa using h
    have he21 : e = 21 := by rw [he, wordErr, if_pos h]
    subst he21
    have hv0 : v = 0 := by rw [hv, if_neg (by decide)]
    subst hv0
    conv => cbv
    refine LeOut2.imp (HImp.fold (S := memSh n f) 0 [2] [.cells 137 [.i .i64 (.ex n), .map 1], .abs (PM 158 kvs)] (by decide) (by cbv) ⟨kvs, hpg, hf, rfl⟩) ?_
    exact (LeOut.mk' [0, 1] (by decide) rfl (by decide) (by cbv) (by cbv)).two
  · have h : notB (eqI (remI at_ 4) 0) = false := hc
    rw [notB_eq, eqI_eq, hrem] at h
    have h : at_ % 4 = 0 := by simpa using h
    have hm : mulI .i64 n 4096 = n * 4096 := by rw [mulI_eq, IntWalk.i64_in _ (by omega)]
    conv => cbv
    refine Br.no (by show ltI (mulI .i64 n 4096) 4 = false; rw [hm, ltI_eq, decide_eq_false_iff_not]; omega) ?_
    conv => cbv
    have hsub : subI .i64 (mulI .i64 n 4096) 4 = n * 4096 - 4 := by rw [hm, subI_eq, IntWalk.i64_in _ (by omega)]
    have hcv : convI .i64 at_ = at_ := by rw [convI_eq, IntWalk.i64_in _ (by omega)]
    refine Br.mk (fun hd => ?_) (fun hd => ?_)
    · have h2 : ltI (subI .i64 (mulI .i64 n 4096) 4) (convI .i64 at_) = true := hd
      rw [hsub, hcv, ltI_eq, decide_eq_true_eq] at h2
      have he22 : e = 22 := by rw [he, wordErr, if_neg (by omega), if_pos h2]
      subst he22
      have hv0 : v = 0 := by rw [hv, if_neg (by decide)]
      subst hv0
      conv => cbv
      refine LeOut2.imp (HImp.fold (S := memSh n f) 0 [2] [.cells 137 [.i .i64 (.ex n), .map 1], .abs (PM 158 kvs)] (by decide) (by cbv) ⟨kvs, hpg, hf, rfl⟩) ?_
      exact (LeOut.mk' [0, 1] (by decide) rfl (by decide) (by cbv) (by cbv)).two
    · have h2 : ltI (subI .i64 (mulI .i64 n 4096) 4) (convI .i64 at_) = false := hd
      rw [hsub, hcv, ltI_eq, decide_eq_false_iff_not] at h2
      have he0 : e = 0 := by rw [he, wordErr, if_neg (by omega), if_neg h2]
      subst he0
      rw [if_pos rfl] at hv
      have hquo : quoI .u32 at_ 4096 = k := by rw [quoI_eq, Int.tdiv_eq_ediv_of_nonneg ha.1, hk, wrap_u32]; omega
      have hre : convI .i64 (remI at_ 4096) = o := by rw [remI_eq, Int.tmod_eq_emod_of_nonneg ha.1, ho, convI_eq, IntWalk.i64_in _ (by omega)]
      have ho2 : 0 ≤ o ∧ o + 4 ≤ 4096 := by omega
      conv => cbv
      refine ⟨by show mkOk 4 4 1; rw [mkOk_eq]; decide, ?_⟩
      conv => cbv
      refine Obs.int (.ex k) hquo.symm ?_
      conv => cbv
      refine Obs.int (.ex o) hre.symm ?_
      conv => cbv
      have hsm : subI .i64 (addI .i64 o 4) 0 = o + 4 := by rw [addI_eq, IntWalk.i64_in _ (by omega), subI_eq, IntWalk.i64_in _ (by omega)]; omega
      refine XOpN.x (XOpN.min rfl rfl (.ex t) (by show t = if subI .i64 (addI .i64 o 4) 0 < 4096 then subI .i64 (addI .i64 o 4) 0 else 4096; rw [hsm]; split <;> omega) ?_)
      conv => cbv
      refine XOpN.x (XOpN.lookupPM mt135 ku27 rfl rfl rfl (.lit 4096) hpg.len (fun h0 => ?_) (fun i l h0 hi => ?_))
      · have h0 : pidx k kvs 0 = none := h0
        conv => cbv
        refine Br.no (by show ltI (addI .i64 0 (subI .i64 t o)) 4 = false; rw [subI_eq, IntWalk.i64_in _ (by omega), addI_eq, IntWalk.i64_in _ (by omega), ltI_eq, decide_eq_false_iff_not]; omega) ?_
        conv => cbv
        have z : ∀ j : Int, 0 ≤ j → j < 4 → f (at_ + j) = 0 := fun j hj hj2 => by rw [← hf]; exact bytes_none (by omega) h0
        have hv0 : v = 0 := by
          rw [hv, w32f, z 1 (by omega) (by omega), z 2 (by omega) (by omega), z 3 (by omega) (by omega)]
          have := z 0 (by omega) (by omega)
          rw [Int.add_zero] at this
          rw [this]; rfl
        have zz : ∀ i, gi (zerosI 4) i = 0 := fun i => by
          rw [gi_eq, zerosI_eq, List.getD_eq_getElem?_getD, List.getElem?_replicate]
          split <;> rfl
        refine LeOut2.imp (HImp.fold (S := memSh n f) 0 [2] [.cells 137 [.i .i64 (.ex n), .map 1], .abs (PM 158 kvs)] (by decide) (by cbv) ⟨kvs, hpg, hf, rfl⟩) ?_
        refine (LeOut.mk' [0, 1] (by decide) rfl (by decide) ?_ (by cbv)).two
        conv => cbv
        refine ⟨?_, trivial⟩
        show v = orI .u32 (orI .u32 (orI .u32 (orI .u32 0 (shlI .u32 (convI .u32 (gi (zerosI 4) 0)) 0)) (shlI .u32 (convI .u32 (gi (zerosI 4) 1)) 8)) (shlI .u32 (convI .u32 (gi (zerosI 4) 2)) 16)) (shlI .u32 (convI .u32 (gi (zerosI 4) 3)) 24)
        rw [zz, zz, zz, zz, w_of (by decide) (by decide) (by decide) (by decide), hv0]
        rfl
      · have h0 : pidx k kvs 0 = some i := h0
        have hi : kvs[i]? = some (k, l) := hi
        conv => cbv
        have hll : l.length = 4096 := hpg.len i k l hi
        have hu : ∀ j, 0 ≤ l.getD j 0 ∧ l.getD j 0 < 256 := fun j => by
          rw [List.getD_eq_getElem?_getD]
          cases e : l[j]? with
          | none => exact ⟨by decide, by decide⟩
          | some z => exact (hpg _ (List.mem_of_getElem? hi)).2 z (List.mem_of_getElem? e)
        have hb0' : b0 = l.getD o.toNat 0 := by rw [← hb0, ← hf, bytes_some hk h0 hi, ho]
        have hb1' : b1 = l.getD (o.toNat + 1) 0 := by rw [← hb1, ← hf, bytes_some (by omega) h0 hi]; congr 1; omega
        have hb2' : b2 = l.getD (o.toNat + 2) 0 := by rw [← hb2, ← hf, bytes_some (by omega) h0 hi]; congr 1; omega
        have hb3' : b3 = l.getD (o.toNat + 3) 0 := by rw [← hb3, ← hf, bytes_some (by omega) h0 hi]; congr 1; omega
        have hbz : bs = (zerosI 4).take 0 ++ ((l.drop (shN 4096 0 (toN o))).take 4 ++ (zerosI 4).drop (0 + 4)) := by
          rw [shN_eq, toN_eq, if_neg (by omega), Nat.zero_add, take4 (by omega), zerosI_eq, ← hbs, hb0', hb1', hb2', hb3']
          rfl
        refine ⟨by show nLe 4 4; rw [nLe_eq]; decide, by show leR t 4096; rw [leR_eq]; omega, by show leR o (toN t); rw [leR_eq, toN_eq]; omega, ?_⟩
        refine XOpN.copyI rfl rfl u175 s5 rfl rfl rfl 4 (by show 4 = min (subN (toN t) (toN o)) 4; rw [subN_eq, toN_eq, toN_eq]; omega) (by decide) (by decide) (by show shN 4096 0 (toN o) + 4 ≤ 4096; rw [shN_eq, toN_eq, if_neg (by omega)]; omega) bs hbz (.lit 4) rfl ?_
        conv => cbv
        refine Br.no (by show ltI (addI .i64 0 (subI .i64 t o)) 4 = false; rw [subI_eq, IntWalk.i64_in _ (by omega), addI_eq, IntWalk.i64_in _ (by omega), ltI_eq, decide_eq_false_iff_not]; omega) ?_
        conv => cbv
        refine LeOut2.imp (HImp.closePM' 2 6 rfl hi rfl) ?_
        refine LeOut2.imp (HImp.fold (S := memSh n f) 0 [2] [.cells 137 [.i .i64 (.ex n), .map 1], .abs (PM 158 kvs)] (by decide) (by cbv) ⟨kvs, hpg, hf, rfl⟩) ?_
        refine (LeOut.mk' [0, 1] (by decide) rfl (by decide) ?_ (by cbv)).two
        conv => cbv
        refine ⟨?_, trivial⟩
        show v = orI .u32 (orI .u32 (orI .u32 (orI .u32 0 (shlI .u32 (convI .u32 (gi bs 0)) 0)) (shlI .u32 (convI .u32 (gi bs 1)) 8)) (shlI .u32 (convI .u32 (gi bs 2)) 16)) (shlI .u32 (convI .u32 (gi bs 3)) 24)
        rw [← hbs]
        have g0 : gi [b0, b1, b2, b3] 0 = b0 := by rw [gi_eq]; rfl
        have g1 : gi [b0, b1, b2, b3] 1 = b1 := by rw [gi_eq]; rfl
        have g2 : gi [b0, b1, b2, b3] 2 = b2 := by rw [gi_eq]; rfl
        have g3 : gi [b0, b1, b2, b3] 3 = b3 := by rw [gi_eq]; rfl
        rw [g0, g1, g2, g3, w_of (by rw [hb0']; exact hu _) (by rw [hb1']; exact hu _) (by rw [hb2']; exact hu _) (by rw [hb3']; exact hu _), hv, w32f, hb0, hb1, hb2, hb3]
end Go.Proofs.Ytnefllaeleihcaa
end

/-
  memory.write, within a page.
-/
section
namespace Go.Proofs.Ytnefllaeleihcaa
open Go Go.Vex
set_option maxRecDepth 20000
set_option maxHeartbeats 4000000
def spliceF (f : Int → Int) (at_ : Int) (src : List Int) (a : Int) : Int := if at_ ≤ a ∧ a < at_ + src.length then src.getD (a - at_).toNat 0 else f a
theorem pidx_set {n k : Int} {l l' : List Int} : ∀ {kvs : List (Int × List Int)} {i : Nat} (j : Nat), kvs[i]? = some (k, l) → pidx n (kvs.set i (k, l')) j = pidx n kvs j
  | [], i, j, h => by simp at h
  | (a, u) :: r, 0, j, h => by
    simp at h
    obtain ⟨rfl, rfl⟩ := h
    simp [pidx]
  | (a, u) :: r, i + 1, j, h => by
    simp at h
    simp only [List.set_cons_succ, pidx]
    rw [pidx_set (j + 1) h]
theorem pidx_app {n k : Int} {l : List Int} : ∀ {kvs : List (Int × List Int)} (j : Nat), pidx n (kvs ++ [(k, l)]) j = match pidx n kvs j with
    | some i => some i
    | none => if k = n then some (j + kvs.length) else none
  | [], j => by simp [pidx]
  | (a, u) :: r, j => by
    simp only [List.cons_append, pidx]
    split
    · rfl
    · rw [pidx_app (j + 1)]
      simp only [List.length_cons]
      rw [show j + 1 + r.length = j + (r.length + 1) by omega]
theorem getD_splice {l src : List Int} {o m j : Nat} (hl : l.length = 4096) (hs : src.length = m) (hm : o + m ≤ 4096) : (l.take o ++ (src ++ l.drop (o + m))).getD j 0 = if o ≤ j ∧ j < o + m then src.getD (j - o) 0 else l.getD j 0 := by
  simp only [List.getD_eq_getElem?_getD]
  by_cases h1 : j < o
  · rw [if_neg (by omega), List.getElem?_append_left (by simp; omega), List.getElem?_take_of_lt h1]
  · rw [List.getElem?_append_right (by simp; omega), show j - (l.take o).length = j - o by simp; omega]
    by_cases h2 : j < o + m
    · rw [if_pos ⟨by omega, h2⟩, List.getElem?_append_left (by omega)]
    · rw [if_neg (by omega), List.getElem?_append_right (by omega), List.getElem?_drop, hs, show o + m + (j - o - m) = j by omega]
theorem splice_ok {l src : List Int} {o m : Nat} (hl : l.length = 4096 ∧ ∀ z ∈ l, 0 ≤ z ∧ z < 256) (hs : src.length = m) (hu : ∀ z ∈ src, 0 ≤ z ∧ z < 256) (hm : o + m ≤ 4096) :
    (l.take o ++ (src ++ l.drop (o + m))).length = 4096 ∧ ∀ z ∈ l.take o ++ (src ++ l.drop (o + m)), 0 ≤ z ∧ z < 256 := by
  refine ⟨by simp; omega, fun z hz => ?_⟩
  simp only [List.mem_append] at hz
  rcases hz with hz | hz | hz
  · exact hl.2 z (List.mem_of_mem_take hz)
  · exact hu z hz
  · exact hl.2 z (List.mem_of_mem_drop hz)
theorem bytes_set {kvs : List (Int × List Int)} {k at_ : Int} {l src : List Int} {i o m : Nat} (hpg : PgOk kvs) (h0 : pidx k kvs 0 = some i) (hi : kvs[i]? = some (k, l)) (hk : at_ / 4096 = k) (ho : (at_ % 4096).toNat = o) (hs : src.length = m)
    (hu : ∀ z ∈ src, 0 ≤ z ∧ z < 256) (hm : o + m ≤ 4096) {l' : List Int} (hl' : l' = l.take o ++ (src ++ l.drop (o + m))) : PgOk (kvs.set i (k, l')) ∧ ∀ a, bytesOf (kvs.set i (k, l')) a = spliceF (bytesOf kvs) at_ src a := by
  have hl := hpg _ (List.mem_of_getElem? hi)
  have hil : i < kvs.length := (List.getElem?_eq_some_iff.1 hi).1
  subst hl'
  refine ⟨fun x hx => ?_, fun a => ?_⟩
  · rcases List.mem_or_eq_of_mem_set hx with hx | hx
    · exact hpg x hx
    · subst hx; exact splice_ok hl hs hu hm
  · unfold spliceF
    by_cases hak : a / 4096 = k
    · rw [bytes_some hak (by rw [pidx_set 0 hi]; exact h0) (List.getElem?_set_self hil), getD_splice hl.1 hs hm, bytes_some hak h0 hi]
      by_cases hc : at_ ≤ a ∧ a < at_ + src.length
      · rw [if_pos hc, if_pos (by omega)]; congr 1; omega
      · rw [if_neg hc, if_neg (by omega)]
    · rw [if_neg (by omega)]
      unfold bytesOf
      rw [pidx_set 0 hi]
      cases hq : pidx (a / 4096) kvs 0 with
      | none => rfl
      | some j =>
        obtain ⟨_, u, hj⟩ := pidx_some hq
        rw [Nat.sub_zero] at hj
        have hne : i ≠ j := by rintro rfl; rw [hi] at hj; cases hj; exact hak rfl
        simp only [List.getD_eq_getElem?_getD, List.getElem?_set_ne hne]
theorem bytes_new {kvs : List (Int × List Int)} {k at_ : Int} {l0 src : List Int} {o m : Nat} (hpg : PgOk kvs) (h0 : pidx k kvs 0 = none) (hk : at_ / 4096 = k) (ho : (at_ % 4096).toNat = o) (hs : src.length = m)
    (hu : ∀ z ∈ src, 0 ≤ z ∧ z < 256) (hm : o + m ≤ 4096) (hl0 : l0 = List.replicate 4096 0) {l' : List Int} (hl' : l' = l0.take o ++ (src ++ l0.drop (o + m))) : PgOk (kvs ++ [(k, l')]) ∧ ∀ a, bytesOf (kvs ++ [(k, l')]) a = spliceF (bytesOf kvs) at_ src a := by
  have hl : l0.length = 4096 ∧ ∀ z ∈ l0, 0 ≤ z ∧ z < 256 := by subst hl0; exact ⟨by simp, fun z hz => by rw [List.eq_of_mem_replicate hz]; decide⟩
  have hz : ∀ j, l0.getD j 0 = 0 := fun j => by subst hl0; rw [List.getD_eq_getElem?_getD, List.getElem?_replicate]; split <;> rfl
  subst hl'
  refine ⟨fun x hx => ?_, fun a => ?_⟩
  · simp only [List.mem_append, List.mem_singleton] at hx
    rcases hx with hx | hx
    · exact hpg x hx
    · subst hx; exact splice_ok hl hs hu hm
  · unfold spliceF
    by_cases hak : a / 4096 = k
    · rw [bytes_some (l := l0.take o ++ (src ++ l0.drop (o + m))) hak (i := kvs.length) (by rw [pidx_app]; simp [h0]) (by simp), getD_splice hl.1 hs hm, bytes_none hak h0, hz]
      by_cases hc : at_ ≤ a ∧ a < at_ + src.length
      · rw [if_pos hc, if_pos (by omega)]; congr 1; omega
      · rw [if_neg hc, if_neg (by omega)]
    · rw [if_neg (by omega)]
      unfold bytesOf
      rw [pidx_app]
      cases hq : pidx (a / 4096) kvs 0 with
      | none => simp [Ne.symm hak]
      | some j =>
        obtain ⟨_, u, hj⟩ := pidx_some hq
        rw [Nat.sub_zero] at hj
        simp only [List.getD_eq_getElem?_getD, List.getElem?_append_left (List.getElem?_eq_some_iff.1 hj).1]
theorem insertPM' {C : Kit} {fr : Fr} {hp : List Blk} {K : SV → List Blk → Prop} {t kt et : Nat} {kd : TypeDesc} {z0 : Value} {m k y : Operand} {x z : Nat} {n : S Int} {T T' : TypeId} {L : List SV} {kvs : List (Int × List Int)} (l : List Int) {kv2 : List (Int × List Int)} (j : Nat) (hkv : kvs ++ [(n.val, l)] = kv2) (hj : kvs.length = j) (hT : MapT C t kt et kd z0) (hK : KeyT C kt (Value.int .u32))
    (em : ev fr hp m = some (.map x)) (ek : ev fr hp k = some (.i .u32 n)) (ey : ev fr hp y = some (.p z (.at 0))) (hx : hp[x]? = some (.abs (PM T kvs))) (hz : hp[z]? = some (.cells T' L)) (hn : pidx n.val kvs 0 = none)
    (hk : K (.raw undef) (hp.set x (.av [.p z (.at 0)] (PMo T kv2 j)))) : XOpN C (.mapUpdate t m k y) fr hp K := by
  subst hkv hj; exact XOpN.insertPM l hT hK em ek ey hx hz hn hk
noncomputable def I59 : FnT := [(59, fi Try.f59 ⟨[], 0⟩), (82, fi Try.f82 ⟨[7, 8], 2⟩), (83, fi Try.f83 ⟨[], 0⟩)]
theorem I59ok : FnsOk kit I59 := ⟨fo59 _, fo82 _, fo83 _, trivial⟩
theorem write_spec (n at_ : Int) (f : Int → Int) (src : List Int) (m cap : Nat) (hcap : m ≤ cap) (ha : 0 ≤ at_ ∧ at_ < 4294967296) (hs : src.length = m) (hm0 : 0 < m) (hm : at_ % 4096 + m ≤ 4096) (hu : ∀ z ∈ src, 0 ≤ z ∧ z < 256) :
    Spec1 kit 59 [.p 0 (.at 0), .i .u32 (.ex at_), .slc 1 0 1 (.lit 0) (.ex m) (.ex cap)] [memB n f, .ro [.ints .u8 (.ex m) src]] false (.tup []) [memB n (spliceF f at_ src), .ro [.ints .u8 (.ex m) src]] [] := by
  refine Spec1.mk2 rfl fun F => OkCall.unfold 0 rfl (CallOk.of (fo59 ⟨[], 0⟩)) ?_
  rintro l ⟨kvs, hpg, hf, rfl⟩
  obtain ⟨k, hk⟩ : ∃ k, at_ / 4096 = k := ⟨_, rfl⟩
  obtain ⟨o, ho⟩ : ∃ o, at_ % 4096 = o := ⟨_, rfl⟩
  obtain ⟨t, ht⟩ : ∃ t, o + m = t := ⟨_, rfl⟩
  obtain ⟨oN, hoN⟩ : ∃ x : Nat, o.toNat = x := ⟨_, rfl⟩
  refine into I59ok 6 ?_
  conv => cbv
  have hquo : quoI .u32 at_ 4096 = k := by rw [quoI_eq, Int.tdiv_eq_ediv_of_nonneg ha.1, hk, wrap_u32]; omega
  have hre : convI .i64 (remI at_ 4096) = o := by rw [remI_eq, Int.tmod_eq_emod_of_nonneg ha.1, ho, convI_eq, IntWalk.i64_in _ (by omega)]
  have ho2 : 0 ≤ o ∧ o + m ≤ 4096 := by omega
  refine Br.yes (by show ltI 0 (ofN m) = true; rw [ltI_eq, decide_eq_true_eq, ofN_eq]; omega) ?_
  conv => cbv
  refine Obs.int (.ex k) hquo.symm ?_
  conv => cbv
  refine Obs.int (.ex o) hre.symm ?_
  conv => cbv
  have hsm : subI .i64 (addI .i64 o (ofN m)) 0 = o + m := by rw [ofN_eq, addI_eq, IntWalk.i64_in _ (by omega), subI_eq, IntWalk.i64_in _ (by omega)]; omega
  refine XOpN.x (XOpN.min rfl rfl (.ex t) (by show t = if subI .i64 (addI .i64 o (ofN m)) 0 < 4096 then subI .i64 (addI .i64 o (ofN m)) 0 else 4096; rw [hsm]; split <;> omega) ?_)
  conv => cbv
  refine XOpN.x (XOpN.lookupPM mt135 ku27 rfl rfl rfl (.lit 4096) hpg.len (fun h0 => ?_) (fun i l h0 hi => ?_))
  · have h0 : pidx k kvs 0 = none := h0
    have hl0 : zerosI 4096 = List.replicate 4096 0 := zerosI_eq _
    obtain ⟨l0, hl0'⟩ : ∃ l0, zerosI 4096 = l0 := ⟨_, rfl⟩
    obtain ⟨l', hl'⟩ : ∃ l', l0.take oN ++ (src ++ l0.drop (oN + m)) = l' := ⟨_, rfl⟩
    obtain ⟨kv2, hkv2⟩ : ∃ x, kvs ++ [(k, l')] = x := ⟨_, rfl⟩
    obtain ⟨jN, hjN⟩ : ∃ x, kvs.length = x := ⟨_, rfl⟩
    conv => cbv
    refine XOpN.x (insertPM' l' jN hkv2 hjN mt135 ku27 rfl rfl rfl rfl rfl h0 ?_)
    conv => cbv
    refine ⟨by show leR t 4096; rw [leR_eq]; omega, by show leR o (toN t); rw [leR_eq, toN_eq]; omega, by show nLe m cap; rw [nLe_eq]; exact hcap, ?_⟩
    refine XOpN.copyI rfl rfl u175 s5 rfl rfl rfl m (by show m = min m (subN (toN t) (toN o)); rw [subN_eq, toN_eq, toN_eq]; omega) hm0 (by show shN 4096 0 (toN o) + m ≤ 4096; rw [shN_eq, toN_eq, if_neg (by omega)]; omega) (by show 0 + m ≤ m; omega) l' (by
      show l' = (zerosI 4096).take (shN 4096 0 (toN o)) ++ ((src.drop 0).take m ++ (zerosI 4096).drop (shN 4096 0 (toN o) + m))
      rw [shN_eq, toN_eq, if_neg (by omega), Nat.zero_add, hoN, hl0', ← hl', List.drop_zero, List.take_of_length_le (l := src) (by omega)]) (.ex m) rfl ?_
    conv => cbv
    have hmm : addI .i64 0 (subI .i64 t o) = m := by rw [subI_eq, IntWalk.i64_in _ (by omega), addI_eq, IntWalk.i64_in _ (by omega)]; omega
    have hlt : ltI (addI .i64 0 (subI .i64 t o)) (ofN m) = false := by rw [hmm, ltI_eq, decide_eq_false_iff_not, ofN_eq]; omega
    refine Br.no hlt ?_
    conv => cbv
    have hki : kv2[jN]? = some (k, l') := by rw [← hkv2, ← hjN]; simp
    refine LeOut2.imp (HImp.closePM' 3 6 rfl hki rfl) ?_
    obtain ⟨hpg', hf'⟩ := bytes_new hpg h0 hk (by rw [ho]; exact hoN) hs hu (by omega) (by rw [← hl0']; exact hl0) hl'.symm
    rw [hkv2] at hpg' hf'
    refine LeOut2.imp (HImp.fold (S := memSh n (spliceF f at_ src)) 0 [3] [.cells 137 [.i .i64 (.ex n), .map 1], .abs (PM 158 kv2)] (by decide) (by cbv) ⟨_, hpg', fun a => by rw [hf' a]; unfold spliceF; rw [hf a], rfl⟩) ?_
    refine (LeOut.mk' [0, 1, 2] (by decide) rfl (by decide) (by cbv) (by cbv)).two
  · have h0 : pidx k kvs 0 = some i := h0
    have hi : kvs[i]? = some (k, l) := hi
    obtain ⟨l', hl'⟩ : ∃ l', l.take oN ++ (src ++ l.drop (oN + m)) = l' := ⟨_, rfl⟩
    conv => cbv
    have hll : l.length = 4096 := hpg.len i k l hi
    refine ⟨by show leR t 4096; rw [leR_eq]; omega, by show leR o (toN t); rw [leR_eq, toN_eq]; omega, by show nLe m cap; rw [nLe_eq]; exact hcap, ?_⟩
    refine XOpN.copyI rfl rfl u175 s5 rfl rfl rfl m (by show m = min m (subN (toN t) (toN o)); rw [subN_eq, toN_eq, toN_eq]; omega) hm0 (by show shN 4096 0 (toN o) + m ≤ 4096; rw [shN_eq, toN_eq, if_neg (by omega)]; omega) (by show 0 + m ≤ m; omega) l' (by
      show l' = l.take (shN 4096 0 (toN o)) ++ ((src.drop 0).take m ++ l.drop (shN 4096 0 (toN o) + m))
      rw [shN_eq, toN_eq, if_neg (by omega), Nat.zero_add, hoN, ← hl', List.drop_zero, List.take_of_length_le (l := src) (by omega)]) (.ex m) rfl ?_
    conv => cbv
    have hmm : addI .i64 0 (subI .i64 t o) = m := by rw [subI_eq, IntWalk.i64_in _ (by omega), addI_eq, IntWalk.i64_in _ (by omega)]; omega
    have hlt : ltI (addI .i64 0 (subI .i64 t o)) (ofN m) = false := by rw [hmm, ltI_eq, decide_eq_false_iff_not, ofN_eq]; omega
    refine Br.no hlt ?_
    conv => cbv
    refine LeOut2.imp (HImp.closePM 3 6 rfl hi rfl) ?_
    obtain ⟨hpg', hf'⟩ := bytes_set hpg h0 hi hk (by rw [ho]; exact hoN) hs hu (by omega) hl'.symm
    refine LeOut2.imp (HImp.fold (S := memSh n (spliceF f at_ src)) 0 [3] [.cells 137 [.i .i64 (.ex n), .map 1], .abs (PM 158 (kvs.set i (k, l')))] (by decide) (by cbv) ⟨_, hpg', fun a => by rw [hf' a]; unfold spliceF; rw [hf a], rfl⟩) ?_
    refine (LeOut.mk' [0, 1, 2] (by decide) rfl (by decide) (by cbv) (by cbv)).two
end Go.Proofs.Ytnefllaeleihcaa
end

/-
  memory.Store of a word; a page filled with 0; New.
-/
section
namespace Go.Proofs.Ytnefllaeleihcaa
open Go Go.Vex
set_option maxRecDepth 20000
set_option maxHeartbeats 4000000
noncomputable def I25 : FnT := [(25, fi Try.f25 ⟨[], 0⟩), (58, fi Try.f58 ⟨[], 0⟩), (81, fi Try.f81 ⟨[], 0⟩)]
theorem I25ok : FnsOk kit I25 := ⟨fo25 _, fo58 _, fo81 _, trivial⟩
/-- A word's four bytes. -/
def b4 (v : Int) : List Int := [v % 256, v / 256 % 256, v / 65536 % 256, v / 16777216 % 256]
def storeF (f : Int → Int) (n at_ v : Int) : Int → Int := if wordErr n at_ = 0 then spliceF f at_ (b4 v) else f
theorem store4_spec (n at_ v : Int) (f : Int → Int) (hn : 1 ≤ n ∧ n ≤ 4096) (ha : 0 ≤ at_ ∧ at_ < 4294967296) (hv : 0 ≤ v ∧ v < 4294967296) {e : Int} (he : e = wordErr n at_) {g : Int → Int} (hg : g = storeF f n at_ v) :
    Spec1 kit 25 [.p 0 (.at 0), .i .u32 (.ex at_), .i .i64 (.lit 4), .i .u32 (.ex v)] [memB n f] false (.i .i64 (.ex e)) [memB n g] [] := by
  refine Spec1.mk2 rfl fun F => OkCall.unfold 0 rfl (CallOk.of (fo25 ⟨[], 0⟩)) ?_
  rintro l ⟨kvs, hpg, hf, rfl⟩
  refine into I25ok 6 ?_
  conv => cbv
  have hrem : remI at_ 4 = at_ % 4 := by rw [remI_eq]; exact Int.tmod_eq_emod_of_nonneg ha.1
  refine Br.mk (fun hc => ?_) (fun hc => ?_)
  · have h : notB (eqI (remI at_ 4) 0) = true := hc
    rw [notB_eq, eqI_eq, hrem] at h
    have h : at_ % 4 ≠ 0 := by simpa using h
    have he21 : e = 21 := by rw [he, wordErr, if_pos h]
    have hgf : g = f := by rw [hg, storeF, ← he, he21, if_neg (by decide)]
    subst he21 hgf
    conv => cbv
    refine LeOut2.imp (HImp.fold (S := memSh n g) 0 [2] [.cells 137 [.i .i64 (.ex n), .map 1], .abs (PM 158 kvs)] (by decide) (by cbv) ⟨kvs, hpg, hf, rfl⟩) ?_
    exact (LeOut.mk' [0, 1] (by decide) rfl (by decide) (by cbv) (by cbv)).two
  · have h : notB (eqI (remI at_ 4) 0) = false := hc
    rw [notB_eq, eqI_eq, hrem] at h
    have h : at_ % 4 = 0 := by simpa using h
    have hm : mulI .i64 n 4096 = n * 4096 := by rw [mulI_eq, IntWalk.i64_in _ (by omega)]
    conv => cbv
    refine Br.no (by show ltI (mulI .i64 n 4096) 4 = false; rw [hm, ltI_eq, decide_eq_false_iff_not]; omega) ?_
    conv => cbv
    have hsub : subI .i64 (mulI .i64 n 4096) 4 = n * 4096 - 4 := by rw [hm, subI_eq, IntWalk.i64_in _ (by omega)]
    have hcv : convI .i64 at_ = at_ := by rw [convI_eq, IntWalk.i64_in _ (by omega)]
    refine Br.mk (fun hd => ?_) (fun hd => ?_)
    · have h2 : ltI (subI .i64 (mulI .i64 n 4096) 4) (convI .i64 at_) = true := hd
      rw [hsub, hcv, ltI_eq, decide_eq_true_eq] at h2
      have he22 : e = 22 := by rw [he, wordErr, if_neg (by omega), if_pos h2]
      have hgf : g = f := by rw [hg, storeF, ← he, he22, if_neg (by decide)]
      subst he22 hgf
      conv => cbv
      refine LeOut2.imp (HImp.fold (S := memSh n g) 0 [2] [.cells 137 [.i .i64 (.ex n), .map 1], .abs (PM 158 kvs)] (by decide) (by cbv) ⟨kvs, hpg, hf, rfl⟩) ?_
      exact (LeOut.mk' [0, 1] (by decide) rfl (by decide) (by cbv) (by cbv)).two
    · have h2 : ltI (subI .i64 (mulI .i64 n 4096) 4) (convI .i64 at_) = false := hd
      rw [hsub, hcv, ltI_eq, decide_eq_false_iff_not] at h2
      have he0 : e = 0 := by rw [he, wordErr, if_neg (by omega), if_neg h2]
      have c8 : ∀ z, convI .u8 z = z % 256 := fun z => by rw [convI_eq, wrap_u8]
      have h8 : shrI .u32 v 8 = v / 256 := by rw [shrI_eq, Int.fdiv_eq_ediv_of_nonneg _ (by decide)]; rfl
      have h16 : shrI .u32 v 16 = v / 65536 := by rw [shrI_eq, Int.fdiv_eq_ediv_of_nonneg _ (by decide)]; rfl
      have h24 : shrI .u32 v 24 = v / 16777216 := by rw [shrI_eq, Int.fdiv_eq_ediv_of_nonneg _ (by decide)]; rfl
      have hb4 : [convI .u8 v, convI .u8 (shrI .u32 v 8), convI .u8 (shrI .u32 v 16), convI .u8 (shrI .u32 v 24)] = b4 v := by rw [h8, h16, h24]; simp only [c8]; rfl
      have hgs : g = spliceF f at_ [convI .u8 v, convI .u8 (shrI .u32 v 8), convI .u8 (shrI .u32 v 16), convI .u8 (shrI .u32 v 24)] := by rw [hb4, hg, storeF, ← he, he0, if_pos rfl]
      have hu : ∀ z ∈ [convI .u8 v, convI .u8 (shrI .u32 v 8), convI .u8 (shrI .u32 v 16), convI .u8 (shrI .u32 v 24)], 0 ≤ z ∧ z < 256 := by
        rw [hb4]; intro z hz; simp only [b4, List.mem_cons, List.not_mem_nil, or_false] at hz; omega
      subst he0 hgs
      conv => cbv
      refine ⟨by show nLe 4 4; rw [nLe_eq]; decide, ?_⟩
      refine OkCall.pre (HImp.fold (S := memSh n f) 0 [2] [.cells 137 [.i .i64 (.ex n), .map 1], .abs (PM 158 kvs)] (by decide) (by cbv) ⟨kvs, hpg, hf, rfl⟩) ?_
      refine OkCall.ext (HImp.toInts (k := .u8) 3 4 [.ex (convI .u8 v), .ex (convI .u8 (shrI .u32 v 8)), .ex (convI .u8 (shrI .u32 v 16)), .ex (convI .u8 (shrI .u32 v 24))] rfl rfl).ext ?_
      refine OkCall.by_spec (write_spec n at_ f _ 4 4 (by omega) ha rfl (by omega) (by omega) hu) [0, 3] (by decide) (by cbv) (by cbv) ?_
      conv => cbv
      refine (LeOut.mk' [0, 1] (by decide) rfl (by decide) (by cbv) (by cbv)).two
end Go.Proofs.Ytnefllaeleihcaa
end

/-
  slices.Repeat of a zero byte; a page filled with 0.
-/
section
namespace Go.Proofs.Ytnefllaeleihcaa
open Go Go.Vex
set_option maxRecDepth 20000
set_option maxHeartbeats 4000000
noncomputable def I95 : FnT := [(95, fi Try.f95 ⟨[], 0⟩), (102, fi Try.f102 ⟨[], 0⟩), (107, fi Try.f107 ⟨[], 0⟩)]
theorem I95ok : FnsOk kit I95 := ⟨fo95 _, fo102 _, fo107 _, trivial⟩
theorem zerosI_len (n : Nat) : (zerosI n).length = n := by rw [zerosI_eq]; simp
theorem zeros_copy {src : List Int} {n o m : Nat} (h : o + m ≤ n) (hs : src.length = m) (hz : ∀ z ∈ src, z = 0) : zerosI n = (zerosI n).take o ++ (src ++ (zerosI n).drop (o + m)) := by
  have : src = List.replicate m 0 := List.eq_replicate_iff.2 ⟨hs, hz⟩
  rw [zerosI_eq, this]
  simp only [List.take_replicate, List.drop_replicate, List.replicate_append_replicate]
  congr 1; omega
theorem zeros_part {n o m : Nat} (h : o + m ≤ n) : (((zerosI n).drop o).take m).length = m ∧ ∀ z ∈ ((zerosI n).drop o).take m, z = 0 := by
  rw [zerosI_eq]
  simp only [List.take_replicate, List.drop_replicate, List.length_replicate, List.mem_replicate]
  exact ⟨by omega, fun z hz => hz.2⟩
theorem repeat0_spec : Spec1 kit 95 [.slc 0 0 1 (.lit 0) (.lit 1) (.lit 1), .i .i64 (.lit 4096)] [.ro [.ints .u8 (.lit 1) [0]]] false (.slc 2 0 1 (.lit 0) (.lit 4096) (.lit 4096)) [.ro [.ints .u8 (.lit 1) [0]]] [.cells 5 [.ints .u8 (.lit 4096) (zerosI 4096)]] := by
  refine Spec1.mk2 rfl fun F => ?_
  refine into I95ok 6 ?_
  conv => cbv
  refine ⟨by show mkOk 4096 4096 1; rw [mkOk_eq]; decide, ?_⟩
  refine XOpN.x (XOpN.copyI rfl rfl u175 s5 rfl rfl rfl 1 (by decide) (by decide) (by decide) (by decide) (zerosI 4096) (zeros_copy (n := 4096) (o := 0) (m := 1) (by decide) rfl (by intro z hz; simpa using hz)) (.ex 1) rfl ?_)
  conv => cbv
  refine byInv I95ok 6 ⟨[], 0⟩ (fun z : Int => ⟨[(8, .i .i64 (.ex z)), (7, .slc 2 0 1 (.lit 0) (.lit 4096) (.lit 4096))], [.ro [.ints .u8 (.lit 1) [0]], .abs F, .cells 5 [.ints .u8 (.lit 4096) (zerosI 4096)]]⟩)
    (fun z => (4096 - z).toNat) (fun z => 1 ≤ z ∧ z ≤ 4096) false 1 (by kernel_rfl) (by omega) (LeSt.mk' [0, 1, 2] (by decide) (by rfl) (by decide) (by cbv) (by cbv)) ?_
  intro z hz
  conv => cbv
  refine Br.mk (fun hc => ?_) (fun hc => ?_)
  · have hc : ltI z 4096 = true := hc
    rw [ltI_eq, decide_eq_true_eq] at hc
    obtain ⟨nz, hnz⟩ : ∃ x : Nat, z.toNat = x := ⟨_, rfl⟩
    obtain ⟨mN, hmN⟩ : ∃ x, min nz (4096 - nz) = x := ⟨_, rfl⟩
    obtain ⟨z2, hz2⟩ : ∃ x : Int, z + mN = x := ⟨_, rfl⟩
    conv => cbv
    refine ⟨by show nLe 4096 4096; rw [nLe_eq]; decide, by show leR z 4096; rw [leR_eq]; omega, by show nLe 4096 4096; rw [nLe_eq]; decide, by show leR z 4096; rw [leR_eq]; omega, ?_⟩
    refine XOpN.copyI rfl rfl u175 s5 rfl rfl rfl mN (by show mN = min (toN z) (subN 4096 (toN z)); rw [subN_eq, toN_eq]; omega) (by omega) (by show shN 4096 0 (toN z) + mN ≤ 4096; rw [shN_eq, toN_eq, if_neg (by omega)]; omega) (by show 0 + mN ≤ 4096; omega) (zerosI 4096) (by
      show zerosI 4096 = (zerosI 4096).take (shN 4096 0 (toN z)) ++ (((zerosI 4096).drop 0).take mN ++ (zerosI 4096).drop (shN 4096 0 (toN z) + mN))
      obtain ⟨h1, h2⟩ := zeros_part (n := 4096) (o := 0) (m := mN) (by omega)
      exact zeros_copy (by rw [shN_eq, toN_eq, if_neg (by omega)]; omega) h1 h2) (.ex mN) rfl ?_
    conv => cbv
    refine ⟨z2, ⟨⟨by omega, by omega⟩, by omega⟩, _, (HImp.refl _).ext, LeSt.mk' [0, 1, 2] (by decide) (by rfl) (by decide) ?_ (by cbv)⟩
    conv => cbv
    refine ⟨?_, trivial⟩
    show z2 = addI .i64 z (mN : Int)
    rw [addI_eq, IntWalk.i64_in _ (by omega), ← hz2]
  · have hc : ltI z 4096 = false := hc
    conv => cbv
    exact (LeOut.mk' [0, 1, 2] (by decide) (by rfl) (by decide) (by cbv) (by cbv)).two

/-! ### A page filled with 0 -/
noncomputable def I76 : FnT := [(76, fi Try.f76 ⟨[], 0⟩), (81, fi Try.f81 ⟨[], 0⟩)]
theorem I76ok : FnsOk kit I76 := ⟨fo76 _, fo81 _, trivial⟩
def zeroF (f : Int → Int) (at_ : Int) (a : Int) : Int := if at_ ≤ a ∧ a < at_ + 4096 then 0 else f a
theorem splice_zero (f : Int → Int) (at_ : Int) : spliceF f at_ (zerosI 4096) = zeroF f at_ := by
  funext a
  unfold spliceF zeroF
  rw [zerosI_len]
  have e : ((4096 : Nat) : Int) = 4096 := rfl
  rw [e]
  by_cases h : at_ ≤ a ∧ a < at_ + 4096
  · rw [if_pos h, if_pos h, zerosI_eq, List.getD_eq_getElem?_getD, List.getElem?_replicate]; split <;> rfl
  · rw [if_neg h, if_neg h]
/-- A page of the memory, filled with 0. -/
theorem fill_spec (n at_ : Int) (f : Int → Int) (hn : 1 ≤ n ∧ n ≤ 4096) (ha : 0 ≤ at_) (h0 : at_ % 4096 = 0) (h1 : at_ + 4096 ≤ n * 4096) :
    Spec1 kit 76 [.p 0 (.at 0), .i .u32 (.ex at_), .i .i64 (.lit 4096), .i .u8 (.lit 0)] [memB n f] false (.i .i64 (.lit 0)) [memB n (zeroF f at_)] [] := by
  refine Spec1.mk2 rfl fun F => OkCall.unfold 0 rfl (CallOk.of (fo76 ⟨[], 0⟩)) ?_
  rintro l ⟨kvs, hpg, hf, rfl⟩
  refine into I76ok 6 ?_
  conv => cbv
  have hm : mulI .i64 n 4096 = n * 4096 := by rw [mulI_eq, IntWalk.i64_in _ (by omega)]
  have hsub : subI .i64 (mulI .i64 n 4096) 4096 = n * 4096 - 4096 := by rw [hm, subI_eq, IntWalk.i64_in _ (by omega)]
  have hcv : convI .i64 at_ = at_ := by rw [convI_eq, IntWalk.i64_in _ (by omega)]
  refine Br.no (by show ltI (mulI .i64 n 4096) 4096 = false; rw [hm, ltI_eq, decide_eq_false_iff_not]; omega) ?_
  conv => cbv
  refine Br.no (by show ltI (subI .i64 (mulI .i64 n 4096) 4096) (convI .i64 at_) = false; rw [hsub, hcv, ltI_eq, decide_eq_false_iff_not]; omega) ?_
  conv => cbv
  refine OkCall.ext (HImp.toInts (k := .u8) 3 1 [.lit 0] rfl rfl).ext ?_
  refine OkCall.by_spec repeat0_spec [3] (by decide) (by cbv) (by cbv) ?_
  conv => cbv
  refine OkCall.pre (HImp.fold (S := memSh n f) 0 [2] [.cells 137 [.i .i64 (.ex n), .map 1], .abs (PM 158 kvs)] (by decide) (by cbv) ⟨kvs, hpg, hf, rfl⟩) ?_
  refine OkCall.pre (HImp.toRo 5 rfl) ?_
  refine OkCall.by_spec (write_spec n at_ f (zerosI 4096) 4096 4096 (by omega) (by omega) (zerosI_len _) (by omega) (by omega) (fun z hz => by rw [zerosI_eq] at hz; rw [List.eq_of_mem_replicate hz]; decide)) [0, 5] (by decide) (by cbv) (by cbv) ?_
  rw [splice_zero]
  conv => cbv
  refine (LeOut.mk' [0, 1] (by decide) rfl (by decide) (by cbv) (by cbv)).two
end Go.Proofs.Ytnefllaeleihcaa
end

/-
  entry: permissions, Encode, Decode, Allows.
-/
section
namespace Go.Proofs.Ytnefllaeleihcaa
open Go Go.Vex
set_option maxRecDepth 20000
set_option maxHeartbeats 4000000
theorem eqI_t {a b : Int} : eqI a b = true ↔ a = b := by rw [eqI_eq, beq_iff_eq]
theorem eqI_f {a b : Int} : eqI a b = false ↔ a ≠ b := by rw [eqI_eq, beq_eq_false_iff_ne]
theorem neI_t {a b : Int} : notB (eqI a b) = true ↔ a ≠ b := by rw [notB_eq, Bool.not_eq_true', eqI_f]
theorem neI_f {a b : Int} : notB (eqI a b) = false ↔ a = b := by rw [notB_eq, Bool.not_eq_false', eqI_t]
theorem ltI_t {a b : Int} : ltI a b = true ↔ a < b := by rw [ltI_eq, decide_eq_true_eq]
theorem ltI_f {a b : Int} : ltI a b = false ↔ b ≤ a := by rw [ltI_eq, decide_eq_false_iff_not]; omega
theorem leI_t {a b : Int} : leI a b = true ↔ a ≤ b := by rw [leI_eq, decide_eq_true_eq]
theorem leI_f {a b : Int} : leI a b = false ↔ b < a := by rw [leI_eq, decide_eq_false_iff_not]; omega
def permOk (p : Int) : Bool := p == 1 || p == 3 || p == 4 || p == 5 || p == 7
theorem all8 {P : Int → Prop} (h : ∀ n : Fin 256, P (n.val : Int)) {p : Int} (h0 : 0 ≤ p) (h1 : p < 256) : P p := by
  obtain ⟨n, rfl⟩ := Int.eq_ofNat_of_zero_le h0
  exact h ⟨n, by omega⟩
theorem p_clr7 {p : Int} (h0 : 0 ≤ p) (h1 : p < 256) : eqI (clrI .u8 p 7) 0 = decide (p < 8) := by
  rw [eqI_eq, clrI_eq]
  exact all8 (P := fun p => decide (IntKind.u8.wrap (BitVec.toNat (BitVec.ofInt 8 p &&& ~~~BitVec.ofInt 8 7) : Int) = 0) = decide (p < 8)) (by decide) h0 h1
theorem p_and5 {p : Int} (h0 : 0 ≤ p) (h1 : p < 256) : eqI (andI .u8 p 5) 0 = decide (p % 2 = 0 ∧ p / 4 % 2 = 0) := by
  rw [eqI_eq, andI_eq]
  exact all8 (P := fun p => decide (IntKind.u8.wrap (BitVec.toNat (BitVec.ofInt 8 p &&& BitVec.ofInt 8 5) : Int) = 0) = decide (p % 2 = 0 ∧ p / 4 % 2 = 0)) (by decide) h0 h1
theorem p_and2 {p : Int} (h0 : 0 ≤ p) (h1 : p < 256) : eqI (andI .u8 p 2) 0 = decide (p / 2 % 2 = 0) := by
  rw [eqI_eq, andI_eq]
  exact all8 (P := fun p => decide (IntKind.u8.wrap (BitVec.toNat (BitVec.ofInt 8 p &&& BitVec.ofInt 8 2) : Int) = 0) = decide (p / 2 % 2 = 0)) (by decide) h0 h1
theorem p_and1 {p : Int} (h0 : 0 ≤ p) (h1 : p < 256) : eqI (andI .u8 p 1) 0 = decide (p % 2 = 0) := by
  rw [eqI_eq, andI_eq]
  exact all8 (P := fun p => decide (IntKind.u8.wrap (BitVec.toNat (BitVec.ofInt 8 p &&& BitVec.ofInt 8 1) : Int) = 0) = decide (p % 2 = 0)) (by decide) h0 h1
theorem permOk_iff {p : Int} : permOk p = true ↔ p = 1 ∨ p = 3 ∨ p = 4 ∨ p = 5 ∨ p = 7 := by simp [permOk, or_assoc]
noncomputable def I93 : FnT := [(93, fi Try.f93 ⟨[], 0⟩)]
theorem I93ok : FnsOk kit I93 := ⟨fo93 _, trivial⟩
theorem perm_spec (p : Int) (hp : 0 ≤ p ∧ p < 256) {b : Bool} (hb : b = permOk p) : Spec1 kit 93 [.i .u8 (.ex p)] [] true (.b (.ex b)) [] [] := by
  refine Spec1.mk2 rfl fun F => ?_
  refine into I93ok 6 ?_
  conv => cbv
  refine Br.mk (fun hc => ?_) (fun hc => ?_)
  · have hc : eqI (clrI .u8 p 7) 0 = true := hc
    rw [p_clr7 hp.1 hp.2, decide_eq_true_eq] at hc
    conv => cbv
    refine Br.mk (fun hd => ?_) (fun hd => ?_)
    · have hd : notB (eqI (andI .u8 p 5) 0) = true := hd
      rw [notB_eq, p_and5 hp.1 hp.2, Bool.not_eq_true', decide_eq_false_iff_not] at hd
      conv => cbv
      refine Br.mk (fun he => ?_) (fun he => ?_)
      · have he : eqI (andI .u8 p 2) 0 = true := he
        rw [p_and2 hp.1 hp.2, decide_eq_true_eq] at he
        conv => cbv
        refine (LeOut.mk' [0] (by decide) rfl (by decide) ?_ (by cbv)).two
        conv => cbv
        rw [hb, permOk_iff]; omega
      · have he : eqI (andI .u8 p 2) 0 = false := he
        rw [p_and2 hp.1 hp.2, decide_eq_false_iff_not] at he
        conv => cbv
        refine (LeOut.mk' [0] (by decide) rfl (by decide) ?_ (by cbv)).two
        conv => cbv
        show b = notB (eqI (andI .u8 p 1) 0)
        rw [hb, notB_eq, p_and1 hp.1 hp.2, Bool.eq_iff_iff, permOk_iff]; simp only [Bool.not_eq_true', decide_eq_false_iff_not]; omega
    · have hd : notB (eqI (andI .u8 p 5) 0) = false := hd
      rw [notB_eq, p_and5 hp.1 hp.2, Bool.not_eq_false', decide_eq_true_eq] at hd
      conv => cbv
      refine (LeOut.mk' [0] (by decide) rfl (by decide) ?_ (by cbv)).two
      conv => cbv
      rw [hb, Bool.eq_false_iff, ne_eq, permOk_iff]; omega
  · have hc : eqI (clrI .u8 p 7) 0 = false := hc
    rw [p_clr7 hp.1 hp.2, decide_eq_false_iff_not] at hc
    conv => cbv
    refine (LeOut.mk' [0] (by decide) rfl (by decide) ?_ (by cbv)).two
    conv => cbv
    rw [hb, Bool.eq_false_iff, ne_eq, permOk_iff]; omega

/-! ### Encode -/
def encE (k p f : Int) : Int :=
  if k = 0 then (if p ≠ 0 then 41 else if 0 < f then 42 else 0)
  else if k = 1 then (if permOk p then (if 4095 < f then 42 else 0) else 41)
  else if k = 2 then (if p ≠ 0 then 41 else if 4095 < f then 42 else 0) else 40
def encW (k p f : Int) : Int := if encE k p f ≠ 0 then 0 else if k = 0 then 0 else if k = 1 then 4096 * f + 2 * p + 1 else 4096 * f + 17
noncomputable def I71 : FnT := [(71, fi Try.f71 ⟨[], 0⟩)]
theorem I71ok : FnsOk kit I71 := ⟨fo71 _, trivial⟩
theorem perm_q {p : Int} (hp : 0 ≤ p ∧ p < 256) {b : Bool} (hb : b = permOk p) {hp0 : List Blk} {K : SV → Prop} (hK : K (.b (.ex b))) : QCall kit 93 [.i .u8 (.ex p)] hp0 K := by
  refine QCall.of_call _ rfl (OkCall.by_spec (perm_spec p hp hb) [] (by decide) (by cbv) trivial ?_) hK
  conv => cbv
  trivial
theorem or_lo (k : Nat) (x c : Int) (hk : k ≤ 32) (h0 : 0 ≤ x) (h1 : x < (2 ^ k : Nat)) (c0 : 0 ≤ c) (hb : (2 ^ k : Nat) * c < 4294967296) : orI .u32 ((2 ^ k : Nat) * c) x = (2 ^ k : Nat) * c + x := by
  obtain ⟨n, rfl⟩ := Int.eq_ofNat_of_zero_le h0
  obtain ⟨m, rfl⟩ := Int.eq_ofNat_of_zero_le c0
  have hn : n < 2 ^ k := by omega
  have hm : 2 ^ k * m < 2 ^ 32 := by
    have : ((2 ^ k * m : Nat) : Int) < 4294967296 := by rw [Int.natCast_mul]; exact hb
    omega
  have h32 : n < 2 ^ 32 := Nat.lt_of_lt_of_le hn (Nat.pow_le_pow_right (by decide) hk)
  rw [← Int.natCast_mul, or_u32 hm h32, ← Nat.two_pow_add_eq_or_of_lt hn m]
  simp
theorem shl12 {f : Int} (hf : 0 ≤ f ∧ f ≤ 4095) : shlI .u32 f 12 = ((2 ^ 12 : Nat) : Int) * f := by rw [shlI_eq, wrap_u32]; show f * 4096 % _ = _; omega
theorem shl1 {p : Int} (hp : 0 ≤ p ∧ p < 256) : shlI .u32 (convI .u32 p) 1 = ((2 ^ 1 : Nat) : Int) * p := by rw [shlI_eq, convI_eq, wrap_u32, wrap_u32]; show p % _ * 2 % _ = _; omega
theorem or1 {p : Int} (hp : 0 ≤ p ∧ p < 256) : orI .u32 1 (((2 ^ 1 : Nat) : Int) * p) = 2 * p + 1 := by
  obtain ⟨n, rfl⟩ := Int.eq_ofNat_of_zero_le hp.1
  have e : (((2 ^ 1 : Nat) : Int) * (n : Int)) = ((2 ^ 1 * n : Nat) : Int) := by simp
  rw [e, show (1 : Int) = ((1 : Nat) : Int) from rfl, or_u32 (by decide) (by omega), Nat.or_comm, ← Nat.two_pow_add_eq_or_of_lt (i := 1) (by decide) n]
  simp
theorem enc_spec (k p f : Int) (hp : 0 ≤ p ∧ p < 256) (hf : 0 ≤ f ∧ f < 4294967296) {e w : Int} (he : e = encE k p f) (hw : w = encW k p f) :
    Spec1 kit 71 [.agg [.i .i64 (.ex k), .i .u8 (.ex p), .i .u32 (.ex f)]] [] false (.tup [.i .u32 (.ex w), .i .i64 (.ex e)]) [] [] := by
  refine Spec1.mk2 rfl fun F => ?_
  refine into I71ok 6 ?_
  conv => cbv
  refine Br.mk (fun hk => ?_) (fun hk => ?_)
  · have hk : k = 0 := eqI_t.1 hk
    conv => cbv
    refine Br.mk (fun h1 => ?_) (fun h1 => ?_)
    · have h1 : p ≠ 0 := neI_t.1 h1
      conv => cbv
      refine (LeOut.mk' [0] (by decide) rfl (by decide) ?_ (by cbv)).two
      conv => cbv
      exact ⟨by rw [hw]; simp [encW, encE, hk, h1], by rw [he]; simp [encE, hk, h1], trivial⟩
    · have h1 : p = 0 := neI_f.1 h1
      conv => cbv
      refine Br.mk (fun h2 => ?_) (fun h2 => ?_)
      · have h2 : 0 < f := ltI_t.1 h2
        conv => cbv
        refine (LeOut.mk' [0] (by decide) rfl (by decide) ?_ (by cbv)).two
        conv => cbv
        exact ⟨by rw [hw]; simp [encW, encE, hk, h1, h2], by rw [he]; simp [encE, hk, h1, h2], trivial⟩
      · have h2 : f ≤ 0 := ltI_f.1 h2
        have hf0 : f = 0 := by omega
        conv => cbv
        refine (LeOut.mk' [0] (by decide) rfl (by decide) ?_ (by cbv)).two
        conv => cbv
        refine ⟨?_, by rw [he]; simp [encE, hk, h1, hf0], trivial⟩
        have hw : w = _ := hw.trans (by simp [encW, encE, hk, h1, hf0]; rfl)
        show w = orI .u32 (shlI .u32 f 12) 0
        rw [hw, hf0, shlI_eq, orI_eq]; rfl
  · have hk0 : k ≠ 0 := eqI_f.1 hk
    conv => cbv
    refine Br.mk (fun hk => ?_) (fun hk => ?_)
    · have hk : k = 1 := eqI_t.1 hk
      obtain ⟨b, hb⟩ : ∃ b, b = permOk p := ⟨_, rfl⟩
      conv => cbv
      refine perm_q hp hb ?_
      conv => cbv
      refine Br.mk (fun h1 => ?_) (fun h1 => ?_)
      · have h1 : notB b = true := h1
        rw [notB_eq, Bool.not_eq_true'] at h1
        rw [h1] at hb
        conv => cbv
        refine (LeOut.mk' [0] (by decide) rfl (by decide) ?_ (by cbv)).two
        conv => cbv
        exact ⟨by rw [hw]; simp [encW, encE, hk, ← hb], by rw [he]; simp [encE, hk, ← hb], trivial⟩
      · have h1 : notB b = false := h1
        rw [notB_eq, Bool.not_eq_false'] at h1
        rw [h1] at hb
        conv => cbv
        refine Br.mk (fun h2 => ?_) (fun h2 => ?_)
        · have h2 : 4095 < f := ltI_t.1 h2
          conv => cbv
          refine (LeOut.mk' [0] (by decide) rfl (by decide) ?_ (by cbv)).two
          conv => cbv
          exact ⟨by rw [hw]; simp [encW, encE, hk, ← hb, h2], by rw [he]; simp [encE, hk, ← hb, h2], trivial⟩
        · have h2 : f ≤ 4095 := ltI_f.1 h2
          have h3 : ¬ 4095 < f := by omega
          conv => cbv
          refine (LeOut.mk' [0] (by decide) rfl (by decide) ?_ (by cbv)).two
          conv => cbv
          refine ⟨?_, by rw [he]; simp [encE, hk, ← hb, h3], trivial⟩
          have hw : w = _ := hw.trans (by simp [encW, encE, hk, ← hb, h3]; rfl)
          show w = orI .u32 (shlI .u32 f 12) (orI .u32 1 (shlI .u32 (convI .u32 p) 1))
          have hp7 := permOk_iff.1 hb.symm
          rw [shl12 ⟨hf.1, h2⟩, shl1 hp, or1 hp, or_lo 12 _ _ (by omega) (by omega) (by omega) hf.1 (by omega), hw]
          omega
    · have hk1 : k ≠ 1 := eqI_f.1 hk
      conv => cbv
      refine Br.mk (fun hk => ?_) (fun hk => ?_)
      · have hk : k = 2 := eqI_t.1 hk
        conv => cbv
        refine Br.mk (fun h1 => ?_) (fun h1 => ?_)
        · have h1 : p ≠ 0 := neI_t.1 h1
          conv => cbv
          refine (LeOut.mk' [0] (by decide) rfl (by decide) ?_ (by cbv)).two
          conv => cbv
          exact ⟨by rw [hw]; simp [encW, encE, hk, h1], by rw [he]; simp [encE, hk, h1], trivial⟩
        · have h1 : p = 0 := neI_f.1 h1
          conv => cbv
          refine Br.mk (fun h2 => ?_) (fun h2 => ?_)
          · have h2 : 4095 < f := ltI_t.1 h2
            conv => cbv
            refine (LeOut.mk' [0] (by decide) rfl (by decide) ?_ (by cbv)).two
            conv => cbv
            exact ⟨by rw [hw]; simp [encW, encE, hk, h1, h2], by rw [he]; simp [encE, hk, h1, h2], trivial⟩
          · have h2 : f ≤ 4095 := ltI_f.1 h2
            have h3 : ¬ 4095 < f := by omega
            conv => cbv
            refine (LeOut.mk' [0] (by decide) rfl (by decide) ?_ (by cbv)).two
            conv => cbv
            refine ⟨?_, by rw [he]; simp [encE, hk, h1, h3], trivial⟩
            have hw : w = _ := hw.trans (by simp [encW, encE, hk, h1, h3]; rfl)
            show w = orI .u32 (shlI .u32 f 12) 17
            rw [shl12 ⟨hf.1, h2⟩, or_lo 12 _ _ (by omega) (by omega) (by omega) hf.1 (by omega), hw]
            omega
      · have hk2 : k ≠ 2 := eqI_f.1 hk
        conv => cbv
        refine (LeOut.mk' [0] (by decide) rfl (by decide) ?_ (by cbv)).two
        conv => cbv
        exact ⟨by rw [hw]; simp [encW, encE, hk0, hk1, hk2], by rw [he]; simp [encE, hk0, hk1, hk2], trivial⟩
end Go.Proofs.Ytnefllaeleihcaa
end

/-
  entry: Decode, Allows.
-/
section
namespace Go.Proofs.Ytnefllaeleihcaa
open Go Go.Vex
set_option maxRecDepth 20000
set_option maxHeartbeats 4000000
def decE (w : Int) : Int :=
  if w = 0 then 0 else if w % 2 = 0 then 43 else if 32 ≤ w % 4096 then 43 else encE (if w / 16 % 2 = 1 then 2 else 1) (w % 16 / 2) (w / 4096)
def decK (w : Int) : Int := if w = 0 then 0 else if decE w ≠ 0 then 0 else if w / 16 % 2 = 1 then 2 else 1
def decP (w : Int) : Int := if decE w ≠ 0 then 0 else w % 16 / 2
def decF (w : Int) : Int := if decE w ≠ 0 then 0 else w / 4096
theorem w_and1 {w : Int} (h : 0 ≤ w ∧ w < 4294967296) : andI .u32 w 1 = w % 2 := mask_u32 1 (by decide) h.1 h.2
theorem w_and4095 {w : Int} (h : 0 ≤ w ∧ w < 4294967296) : andI .u32 w 4095 = w % 4096 := mask_u32 12 (by decide) h.1 h.2
theorem w_and14 {w : Int} (h : 0 ≤ w ∧ w < 4294967296) : shrI .u32 (andI .u32 w 14) 1 = w % 16 / 2 := by
  obtain ⟨n, rfl⟩ := Int.eq_ofNat_of_zero_le h.1
  rw [show (14 : Int) = ((14 : Nat) : Int) from rfl, and_u32 (by omega) (by decide)]
  have := shrI_u32 ((n &&& 14 : Nat) : Int) 1 (by decide)
  rw [show ((1 : Nat) : Int) = 1 from rfl] at this
  rw [this]
  have e : (n &&& 14) / 2 = n % 16 / 2 := by
    have h1 : (n &&& 14) / 2 = n / 2 &&& 14 / 2 := Nat.and_div_two
    rw [h1, show (14 / 2 : Nat) = 2 ^ 3 - 1 by decide, Nat.and_two_pow_sub_one_eq_mod]
    omega
  omega
theorem w_and16 {w : Int} (h : 0 ≤ w ∧ w < 4294967296) : andI .u32 w 16 ≠ 0 ↔ w / 16 % 2 = 1 := by
  obtain ⟨n, rfl⟩ := Int.eq_ofNat_of_zero_le h.1
  rw [show (16 : Int) = ((16 : Nat) : Int) from rfl, and_u32 (by omega) (by decide)]
  have ht : n.testBit 4 = decide (n / 16 % 2 = 1) := Nat.testBit_eq_decide_div_mod_eq
  by_cases hb : n / 16 % 2 = 1
  · have h1 : (n &&& 16) ≠ 0 := by
      intro h0
      have : (n &&& 16).testBit 4 = true := by rw [Nat.testBit_and, ht, decide_eq_true hb]; decide
      rw [h0] at this; simp at this
    omega
  · have h1 : (n &&& 16) = 0 := by
      apply Nat.eq_of_testBit_eq
      intro i
      rw [Nat.testBit_and, show (16 : Nat) = 2 ^ 4 by decide, Nat.testBit_two_pow, Nat.zero_testBit]
      by_cases hi : 4 = i
      · subst hi; rw [ht, decide_eq_false hb]; rfl
      · simp [hi]
    omega
theorem w_clr31 {x : Int} (h : 0 ≤ x ∧ x < 4096) : clrI .u32 x 31 ≠ 0 ↔ 32 ≤ x := by
  obtain ⟨n, rfl⟩ := Int.eq_ofNat_of_zero_le h.1
  rw [clrI_eq]
  show IntKind.u32.wrap ((BitVec.ofInt 32 (n : Int) &&& ~~~ BitVec.ofInt 32 ((31 : Nat) : Int)).toNat : Int) ≠ 0 ↔ _
  rw [BitVec.ofInt_natCast, BitVec.ofInt_natCast]
  have e : (BitVec.ofNat 32 n &&& ~~~BitVec.ofNat 32 31) = BitVec.ofNat 32 (n / 2 ^ 5 * 2 ^ 5) := by
    apply BitVec.eq_of_getLsbD_eq
    intro i hi
    simp only [BitVec.getLsbD_and, BitVec.getLsbD_not, BitVec.getLsbD_ofNat, hi, decide_true, Bool.true_and]
    rw [Nat.testBit_mul_two_pow, Nat.testBit_div_two_pow, show (31 : Nat) = 2 ^ 5 - 1 by decide, Nat.testBit_two_pow_sub_one]
    by_cases h5 : i < 5
    · simp [h5, Nat.not_le.2 h5]
    · have : 5 ≤ i := by omega
      simp [h5, this]
  rw [e, BitVec.toNat_ofNat, wrap_u32]
  have h2 : n / 2 ^ 5 * 2 ^ 5 ≤ n := Nat.div_mul_le_self _ _
  rw [Nat.mod_eq_of_lt (by omega)]
  omega
noncomputable def I51 : FnT := [(51, fi Try.f51 ⟨[], 0⟩)]
theorem I51ok : FnsOk kit I51 := ⟨fo51 _, trivial⟩
theorem dec_spec (w : Int) (hw : 0 ≤ w ∧ w < 4294967296) {k p f e : Int} (hk : k = decK w) (hp : p = decP w) (hf : f = decF w) (he : e = decE w) :
    Spec1 kit 51 [.i .u32 (.ex w)] [] false (.tup [.agg [.i .i64 (.ex k), .i .u8 (.ex p), .i .u32 (.ex f)], .i .i64 (.ex e)]) [] [] := by
  refine Spec1.mk2 rfl fun F => ?_
  refine into I51ok 6 ?_
  conv => cbv
  refine Br.mk (fun h0 => ?_) (fun h0 => ?_)
  · have h0 : w = 0 := eqI_t.1 h0
    conv => cbv
    refine (LeOut.mk' [0] (by decide) rfl (by decide) ?_ (by cbv)).two
    conv => cbv
    have hd : decE w = 0 := by simp [decE, h0]
    exact ⟨⟨by rw [hk, decK, if_pos h0], by rw [hp, decP, hd, h0]; rfl, by rw [hf, decF, hd, h0]; rfl, trivial⟩, by rw [he, hd], trivial⟩
  · have h0 : w ≠ 0 := eqI_f.1 h0
    conv => cbv
    refine Br.mk (fun h1 => ?_) (fun h1 => ?_)
    · have h1 : andI .u32 w 1 = 0 := eqI_t.1 h1
      rw [w_and1 hw] at h1
      conv => cbv
      refine (LeOut.mk' [0] (by decide) rfl (by decide) ?_ (by cbv)).two
      conv => cbv
      have hd : decE w = 43 := by simp [decE, h0, h1]
      exact ⟨⟨by rw [hk, decK, if_neg h0, hd]; rfl, by rw [hp, decP, hd]; rfl, by rw [hf, decF, hd]; rfl, trivial⟩, by rw [he, hd], trivial⟩
    · have h1 : andI .u32 w 1 ≠ 0 := eqI_f.1 h1
      rw [w_and1 hw] at h1
      conv => cbv
      refine Br.mk (fun h2 => ?_) (fun h2 => ?_)
      · have h2 : clrI .u32 (andI .u32 w 4095) 31 ≠ 0 := neI_t.1 h2
        rw [w_and4095 hw, w_clr31 (by omega)] at h2
        conv => cbv
        refine (LeOut.mk' [0] (by decide) rfl (by decide) ?_ (by cbv)).two
        conv => cbv
        have hd : decE w = 43 := by rw [decE, if_neg h0, if_neg h1, if_pos h2]
        exact ⟨⟨by rw [hk, decK, if_neg h0, hd]; rfl, by rw [hp, decP, hd]; rfl, by rw [hf, decF, hd]; rfl, trivial⟩, by rw [he, hd], trivial⟩
      · have h2 : clrI .u32 (andI .u32 w 4095) 31 = 0 := neI_f.1 h2
        have h2 : ¬ 32 ≤ w % 4096 := by
          intro h3
          rw [w_and4095 hw] at h2
          exact (w_clr31 (by omega)).2 h3 h2
        have hpv : convI .u8 (shrI .u32 (andI .u32 w 14) 1) = w % 16 / 2 := by rw [w_and14 hw, convI_eq, wrap_u8]; omega
        have hfv : shrI .u32 w 12 = w / 4096 := shrI_u32 w 12 (by decide)
        have hE : decE w = encE (if w / 16 % 2 = 1 then 2 else 1) (w % 16 / 2) (w / 4096) := by rw [decE, if_neg h0, if_neg h1, if_neg h2]
        obtain ⟨pv, hpv'⟩ : ∃ x, w % 16 / 2 = x := ⟨_, rfl⟩
        obtain ⟨fv, hfv'⟩ : ∃ x, w / 4096 = x := ⟨_, rfl⟩
        conv => cbv
        refine Br.mk (fun h3 => ?_) (fun h3 => ?_)
        · have h3 : andI .u32 w 16 ≠ 0 := neI_t.1 h3
          rw [w_and16 hw] at h3
          rw [if_pos h3, hpv', hfv'] at hE
          conv => cbv
          have hs := enc_spec 2 pv fv (by omega) (by omega) (e := encE 2 pv fv) (w := encW 2 pv fv) rfl rfl
          obtain ⟨e2, he2⟩ : ∃ x, encE 2 pv fv = x := ⟨_, rfl⟩
          obtain ⟨w2, hw2⟩ : ∃ x, encW 2 pv fv = x := ⟨_, rfl⟩
          rw [he2, hw2] at hs
          rw [he2] at hE
          refine OkCall.by_spec hs [] (by decide) ?_ trivial ?_
          · conv => cbv
            exact ⟨⟨(hpv.trans hpv').symm, (hfv.trans hfv').symm, trivial⟩, trivial⟩
          conv => cbv
          refine Br.mk (fun h4 => ?_) (fun h4 => ?_)
          · have h4 : e2 ≠ 0 := neI_t.1 h4
            conv => cbv
            refine (LeOut.mk' [0] (by decide) rfl (by decide) ?_ (by cbv)).two
            conv => cbv
            exact ⟨⟨by rw [hk, decK, if_neg h0, hE, if_pos h4], by rw [hp, decP, hE, if_pos h4], by rw [hf, decF, hE, if_pos h4], trivial⟩, by rw [he, hE], trivial⟩
          · have h4 : e2 = 0 := neI_f.1 h4
            conv => cbv
            refine (LeOut.mk' [0] (by decide) rfl (by decide) ?_ (by cbv)).two
            conv => cbv
            have hE0 : decE w = 0 := hE.trans h4
            exact ⟨⟨by rw [hk, decK, if_neg h0, hE0, if_neg (by decide), if_pos h3], by rw [hp, decP, hE0, if_neg (by decide)]; exact hpv.symm, by rw [hf, decF, hE0, if_neg (by decide)]; exact hfv.symm, trivial⟩, by rw [he, hE0], trivial⟩
        · have h3 : andI .u32 w 16 = 0 := neI_f.1 h3
          have h3 : ¬ w / 16 % 2 = 1 := fun h4 => (w_and16 hw).2 h4 h3
          rw [if_neg h3, hpv', hfv'] at hE
          conv => cbv
          have hs := enc_spec 1 pv fv (by omega) (by omega) (e := encE 1 pv fv) (w := encW 1 pv fv) rfl rfl
          obtain ⟨e2, he2⟩ : ∃ x, encE 1 pv fv = x := ⟨_, rfl⟩
          obtain ⟨w2, hw2⟩ : ∃ x, encW 1 pv fv = x := ⟨_, rfl⟩
          rw [he2, hw2] at hs
          rw [he2] at hE
          refine OkCall.by_spec hs [] (by decide) ?_ trivial ?_
          · conv => cbv
            exact ⟨⟨(hpv.trans hpv').symm, (hfv.trans hfv').symm, trivial⟩, trivial⟩
          conv => cbv
          refine Br.mk (fun h4 => ?_) (fun h4 => ?_)
          · have h4 : e2 ≠ 0 := neI_t.1 h4
            conv => cbv
            refine (LeOut.mk' [0] (by decide) rfl (by decide) ?_ (by cbv)).two
            conv => cbv
            exact ⟨⟨by rw [hk, decK, if_neg h0, hE, if_pos h4], by rw [hp, decP, hE, if_pos h4], by rw [hf, decF, hE, if_pos h4], trivial⟩, by rw [he, hE], trivial⟩
          · have h4 : e2 = 0 := neI_f.1 h4
            conv => cbv
            refine (LeOut.mk' [0] (by decide) rfl (by decide) ?_ (by cbv)).two
            conv => cbv
            have hE0 : decE w = 0 := hE.trans h4
            exact ⟨⟨by rw [hk, decK, if_neg h0, hE0, if_neg (by decide), if_neg h3], by rw [hp, decP, hE0, if_neg (by decide)]; exact hpv.symm, by rw [hf, decF, hE0, if_neg (by decide)]; exact hfv.symm, trivial⟩, by rw [he, hE0], trivial⟩

/-! ### Allows -/
def allowB (p a : Int) : Bool := (a == 1 && p % 2 == 1) || (a == 2 && p / 2 % 2 == 1) || (a == 3 && p / 4 % 2 == 1)
noncomputable def I21 : FnT := [(21, fi Try.f21 ⟨[], 0⟩), (57, fi Try.f57 ⟨[], 0⟩)]
theorem I21ok : FnsOk kit I21 := ⟨fo21 _, fo57 _, trivial⟩
theorem OkCall.args {C : Kit} {f : Nat} {args args' : List SV} {hp : List Blk} {K : Bool → SV → List Blk → Prop} (hl : leL args args') (h : OkCall C f args' hp K) : OkCall C f args hp K :=
  ⟨h.ok, fun ρ w vals hd hs => h.out ρ w vals (leL.denT hd hl) hs⟩
theorem p_and4 {p : Int} (h0 : 0 ≤ p) (h1 : p < 256) : notB (eqI (andI .u8 p 4) 0) = (p / 4 % 2 == 1) := by
  rw [notB_eq, eqI_eq, andI_eq]
  exact all8 (P := fun p => (!decide (IntKind.u8.wrap (BitVec.toNat (BitVec.ofInt 8 p &&& BitVec.ofInt 8 4) : Int) = 0)) = (p / 4 % 2 == 1)) (by decide) h0 h1
theorem p_and2' {p : Int} (h0 : 0 ≤ p) (h1 : p < 256) : notB (eqI (andI .u8 p 2) 0) = (p / 2 % 2 == 1) := by
  rw [notB_eq, eqI_eq, andI_eq]
  exact all8 (P := fun p => (!decide (IntKind.u8.wrap (BitVec.toNat (BitVec.ofInt 8 p &&& BitVec.ofInt 8 2) : Int) = 0)) = (p / 2 % 2 == 1)) (by decide) h0 h1
theorem p_and1' {p : Int} (h0 : 0 ≤ p) (h1 : p < 256) : notB (eqI (andI .u8 p 1) 0) = (p % 2 == 1) := by
  rw [notB_eq, eqI_eq, andI_eq]
  exact all8 (P := fun p => (!decide (IntKind.u8.wrap (BitVec.toNat (BitVec.ofInt 8 p &&& BitVec.ofInt 8 1) : Int) = 0)) = (p % 2 == 1)) (by decide) h0 h1
theorem allow_spec (p a : Int) (hp : 0 ≤ p ∧ p < 256) {b : Bool} (hb : b = allowB p a) : Spec1 kit 21 [.i .u8 (.ex p), .i .i64 (.ex a)] [] false (.b (.ex b)) [] [] := by
  refine Spec1.mk2 rfl fun F => ?_
  by_cases h1 : a = 1
  · refine OkCall.args (args' := [.i .u8 (.ex p), .i .i64 (.lit 1)]) ⟨⟨rfl, rfl⟩, ⟨rfl, by rw [h1]; rfl⟩, trivial⟩ ?_
    refine into I21ok 6 ?_
    conv => cbv
    refine (LeOut.mk' [0] (by decide) rfl (by decide) ?_ (by cbv)).two
    conv => cbv
    show b = notB (eqI (andI .u8 p 1) 0)
    rw [p_and1' hp.1 hp.2, hb, h1]; simp [allowB]
  by_cases h2 : a = 2
  · refine OkCall.args (args' := [.i .u8 (.ex p), .i .i64 (.lit 2)]) ⟨⟨rfl, rfl⟩, ⟨rfl, by rw [h2]; rfl⟩, trivial⟩ ?_
    refine into I21ok 6 ?_
    conv => cbv
    refine (LeOut.mk' [0] (by decide) rfl (by decide) ?_ (by cbv)).two
    conv => cbv
    show b = notB (eqI (andI .u8 p 2) 0)
    rw [p_and2' hp.1 hp.2, hb, h2]; simp [allowB]
  by_cases h3 : a = 3
  · refine OkCall.args (args' := [.i .u8 (.ex p), .i .i64 (.lit 3)]) ⟨⟨rfl, rfl⟩, ⟨rfl, by rw [h3]; rfl⟩, trivial⟩ ?_
    refine into I21ok 6 ?_
    conv => cbv
    refine (LeOut.mk' [0] (by decide) rfl (by decide) ?_ (by cbv)).two
    conv => cbv
    show b = notB (eqI (andI .u8 p 4) 0)
    rw [p_and4 hp.1 hp.2, hb, h3]; simp [allowB]
  have hb0 : b = false := by rw [hb]; simp [allowB, h1, h2, h3]
  refine into I21ok 6 ?_
  conv => cbv
  refine Br.mk (fun h4 => ?_) (fun h4 => ?_)
  · have h4 : 0 < a := ltI_t.1 h4
    conv => cbv
    refine Br.no (show ltI a 4 = false from ltI_f.2 (by omega)) ?_
    conv => cbv
    refine (LeOut.mk' [0] (by decide) rfl (by decide) ?_ (by cbv)).two
    conv => cbv
    exact hb0
  · have h4 : a ≤ 0 := ltI_f.1 h4
    conv => cbv
    refine (LeOut.mk' [0] (by decide) rfl (by decide) ?_ (by cbv)).two
    conv => cbv
    exact hb0
end Go.Proofs.Ytnefllaeleihcaa
end

/-
  memory.New, arena.New, arena.Take, tables.New.
-/
section
namespace Go.Proofs.Ytnefllaeleihcaa
open Go Go.Vex
set_option maxRecDepth 20000
set_option maxHeartbeats 4000000
noncomputable def I23 : FnT := [(23, fi Try.f23 ⟨[], 0⟩)]
theorem I23ok : FnsOk kit I23 := ⟨fo23 _, trivial⟩
theorem new_spec (n : Int) (hn : 1 ≤ n ∧ n ≤ 4096) : Spec1 kit 23 [.i .i64 (.ex n)] [] false (.tup [.p 1 (.at 0), .i .i64 (.lit 0)]) [] [memB n (fun _ => 0)] := by
  refine Spec1.mk2 rfl fun F => ?_
  refine into I23ok 6 ?_
  conv => cbv
  refine Br.no (show ltI n 1 = false from ltI_f.2 (by omega)) ?_
  conv => cbv
  refine Br.no (show ltI 4096 n = false from ltI_f.2 (by omega)) ?_
  conv => cbv
  refine XOpN.x (XOpN.makeB (.abs (PM 158 [])) (makePM 158) ?_)
  conv => cbv
  refine LeOut2.imp (HImp.fold (S := memSh n (fun _ => 0)) 2 [1] [.cells 137 [.i .i64 (.ex n), .map 1], .abs (PM 158 [])] (by decide) (by cbv) ⟨[], by intro x hx; simp at hx, fun a => rfl, rfl⟩) ?_
  refine (LeOut.mk' [0, 2] (by decide) rfl (by decide) (by cbv) (by cbv)).two
/-- An arena. -/
abbrev arB (m : Nat) (base pages taken : Int) (sealed : Bool) : Blk := .cells 129 [.p m (.at 0), .i .u32 (.ex base), .i .i64 (.ex pages), .i .i64 (.ex taken), .b (.ex sealed)]
noncomputable def I45 : FnT := [(45, fi Try.f45 ⟨[], 0⟩), (77, fi Try.f77 ⟨[], 0⟩)]
theorem I45ok : FnsOk kit I45 := ⟨fo45 _, fo77 _, trivial⟩
theorem memUnf {f : Nat} {fn : Func} {args : List SV} {hp : List Blk} {K : Bool → SV → List Blk → Prop} {n : Int} {g : Int → Int} (x : Nat) (hx : hp[x]? = some (memB n g)) (hok : CallOk kit.P f)
    (h : ∀ kvs, PgOk kvs → (∀ a, bytesOf kvs a = g a) → OkCall kit f args (unf hp x [.cells 137 [.i .i64 (.ex n), .map 1], .abs (PM 158 kvs)]) K) : OkCall kit f args hp K := by
  refine OkCall.unfold x hx hok ?_
  rintro l ⟨kvs, hpg, hf, rfl⟩
  exact h kvs hpg hf
theorem arenaNew_spec (n base many : Int) (f : Int → Int) (hn : 1 ≤ n ∧ n ≤ 4096) (hb : 0 ≤ base ∧ base < 4294967296) (h0 : base % 4096 = 0) (hm : 0 ≤ many) (hs : base / 4096 + many ≤ n) :
    Spec1 kit 45 [.p 0 (.at 0), .i .u32 (.ex base), .i .i64 (.ex many)] [memB n f] false (.tup [.p 2 (.at 0), .i .i64 (.lit 0)]) [memB n f] [arB 0 base many 0 false] := by
  refine Spec1.mk2 rfl fun F => OkCall.unfold 0 rfl (CallOk.of (fo45 ⟨[], 0⟩)) ?_
  rintro l ⟨kvs, hpg, hf, rfl⟩
  refine into I45ok 6 ?_
  conv => cbv
  have hrem : remI base 4096 = 0 := by rw [remI_eq, Int.tmod_eq_emod_of_nonneg hb.1, h0]
  have hq : addI .i64 (convI .i64 (quoI .u32 base 4096)) many = base / 4096 + many := by
    have h1 : convI .i64 (quoI .u32 base 4096) = base / 4096 := by rw [quoI_eq, Int.tdiv_eq_ediv_of_nonneg hb.1, wrap_u32, convI_eq, IntWalk.i64_in _ (by omega)]; omega
    rw [h1, addI_eq, IntWalk.i64_in _ (by omega)]
  refine Br.no (show notB (eqI (remI base 4096) 0) = false from neI_f.2 hrem) ?_
  conv => cbv
  refine Br.no (show ltI many 0 = false from ltI_f.2 hm) ?_
  conv => cbv
  refine Br.no (show ltI n many = false from ltI_f.2 (by omega)) ?_
  conv => cbv
  refine Br.no (show ltI n (addI .i64 (convI .i64 (quoI .u32 base 4096)) many) = false from ltI_f.2 (by rw [hq]; exact hs)) ?_
  conv => cbv
  refine LeOut2.imp (HImp.fold (S := memSh n f) 0 [2] [.cells 137 [.i .i64 (.ex n), .map 1], .abs (PM 158 kvs)] (by decide) (by cbv) ⟨kvs, hpg, hf, rfl⟩) ?_
  refine (LeOut.mk' [0, 1, 3] (by decide) rfl (by decide) (by cbv) (by cbv)).two
/-! ### A page is given out -/
noncomputable def I43 : FnT := [(43, fi Try.f43 ⟨[4], 0⟩)]
theorem I43ok : FnsOk kit I43 := ⟨fo43 _, trivial⟩
def takeE (pages taken : Int) (sealed : Bool) : Int := if sealed = true then 62 else if taken = pages then 61 else 0
/-- An arena lies within its memory. -/
structure ArOk (n base pages taken : Int) : Prop where
  hn : 1 ≤ n ∧ n ≤ 4096
  hb : 0 ≤ base
  hb0 : base % 4096 = 0
  ht : 0 ≤ taken ∧ taken ≤ pages
  hs : base / 4096 + pages ≤ n
theorem take_no (n base pages taken : Int) (sealed : Bool) (f : Int → Int) (h : ArOk n base pages taken) {e : Int} (he : e = takeE pages taken sealed) (hne : e ≠ 0) :
    Spec1 kit 43 [.p 1 (.at 0)] [memB n f, arB 0 base pages taken sealed] false (.tup [.i .u32 (.lit 0), .i .i64 (.ex e)]) [memB n f, arB 0 base pages taken sealed] [] := by
  refine Spec1.mk2 rfl fun F => ?_
  refine into I43ok 6 ?_
  conv => cbv
  refine Br.mk (fun hc => ?_) (fun hc => ?_)
  · have he : e = 62 := by rw [he, takeE, if_pos hc]
    conv => cbv
    refine (LeOut.mk' [0, 1, 2] (by decide) rfl (by decide) ?_ (by cbv)).two
    conv => cbv
    exact ⟨he, trivial⟩
  · have hs : sealed = false := hc
    subst hs
    rw [takeE, if_neg (by decide)] at he
    conv => cbv
    refine Br.mk (fun hd => ?_) (fun hd => ?_)
    · have hd : taken = pages := eqI_t.1 hd
      have he : e = 61 := by rw [he, if_pos hd]
      conv => cbv
      refine (LeOut.mk' [0, 1, 2] (by decide) rfl (by decide) ?_ (by cbv)).two
      conv => cbv
      exact ⟨he, trivial⟩
    · have hd : taken ≠ pages := eqI_f.1 hd
      exact absurd (by rw [he, if_neg hd]) hne
theorem take_ok (n base pages taken : Int) (f : Int → Int) (h : ArOk n base pages taken) (ht : taken ≠ pages) {at_ tk : Int} (hat : at_ = base + 4096 * taken) (htk : tk = taken + 1) :
    Spec1 kit 43 [.p 1 (.at 0)] [memB n f, arB 0 base pages taken false] false (.tup [.i .u32 (.ex at_), .i .i64 (.lit 0)]) [memB n (zeroF f at_), arB 0 base pages tk false] [] := by
  obtain ⟨h1, h2, h3, h4, h5⟩ := h
  refine Spec1.mk2 rfl fun F => ?_
  refine into I43ok 6 ?_
  conv => cbv
  refine Br.no rfl ?_
  conv => cbv
  refine Br.no (show eqI taken pages = false from eqI_f.2 ht) ?_
  conv => cbv
  have e1 : at_ = addI .u32 base (mulI .u32 (convI .u32 taken) 4096) := by
    have h1 : mulI .u32 (convI .u32 taken) 4096 = taken * 4096 := by rw [mulI_eq, convI_eq, wrap_u32, wrap_u32]; omega
    rw [h1, addI_eq, wrap_u32]; omega
  refine Obs.int (.ex at_) e1 ?_
  conv => cbv
  have e2 : tk = addI .i64 taken 1 := by rw [addI_eq, IntWalk.i64_in _ (by omega)]; exact htk
  refine OkCall.by_spec (fill_spec n at_ f h1 (by omega) (by omega) (by omega)) [0] (by decide) (by cbv) (by cbv) ?_
  conv => cbv
  refine (LeOut.mk' [0, 1, 2] (by decide) rfl (by decide) (by cbv) ?_).two
  conv => cbv
  exact ⟨⟨e2, trivial⟩, trivial⟩
/-! ### A space is begun -/
noncomputable def I14 : FnT := [(14, fi Try.f14 ⟨[], 0⟩), (44, fi Try.f44 ⟨[], 0⟩)]
theorem I14ok : FnsOk kit I14 := ⟨fo14 _, fo44 _, trivial⟩
abbrev spB (a : Nat) (root : Int) : Blk := .cells 109 [.p a (.at 0), .i .u32 (.ex root)]
theorem tnew_nil : Spec1 kit 14 [.nilp] [] true (.tup [.nilp, .i .i64 (.lit 70)]) [] [] := by
  refine Spec1.mk2 rfl fun F => ?_
  refine into I14ok 6 ?_
  conv => cbv
  refine (LeOut.mk' [0] (by decide) rfl (by decide) (by cbv) (by cbv)).two
theorem tnew_ok (n base pages taken : Int) (f : Int → Int) (h : ArOk n base pages taken) (ht : taken ≠ pages) {at_ tk : Int} (hat : at_ = base + 4096 * taken) (htk : tk = taken + 1) :
    Spec1 kit 14 [.p 1 (.at 0)] [memB n f, arB 0 base pages taken false] false (.tup [.p 3 (.at 0), .i .i64 (.lit 0)]) [memB n (zeroF f at_), arB 0 base pages tk false] [spB 1 at_] := by
  refine Spec1.mk2 rfl fun F => ?_
  refine into I14ok 6 ?_
  conv => cbv
  refine OkCall.by_spec (take_ok n base pages taken f h ht hat htk) [0, 1] (by decide) (by cbv) (by cbv) ?_
  conv => cbv
  refine (LeOut.mk' [0, 1, 2, 4] (by decide) rfl (by decide) (by cbv) (by cbv)).two
theorem tnew_no (n base pages taken : Int) (sealed : Bool) (f : Int → Int) (h : ArOk n base pages taken) (hne : takeE pages taken sealed ≠ 0) {e : Int} (he : e = if sealed = true then 73 else 72) :
    Spec1 kit 14 [.p 1 (.at 0)] [memB n f, arB 0 base pages taken sealed] false (.tup [.nilp, .i .i64 (.ex e)]) [memB n f, arB 0 base pages taken sealed] [] := by
  refine Spec1.mk2 rfl fun F => ?_
  refine into I14ok 6 ?_
  conv => cbv
  obtain ⟨e0, he0⟩ : ∃ x, x = takeE pages taken sealed := ⟨_, rfl⟩
  refine OkCall.by_spec (take_no n base pages taken sealed f h he0 (by rw [he0]; exact hne)) [0, 1] (by decide) (by cbv) (by cbv) ?_
  conv => cbv
  refine Br.yes (show notB (eqI e0 0) = true from neI_t.2 (by rw [he0]; exact hne)) ?_
  conv => cbv
  refine Br.mk (fun hc => ?_) (fun hc => ?_)
  · have hc : e0 = 62 := eqI_t.1 hc
    have hs : sealed = true := by
      cases sealed with
      | true => rfl
      | false => rw [hc, takeE, if_neg (by decide)] at he0; split at he0 <;> omega
    rw [if_pos hs] at he
    conv => cbv
    refine (LeOut.mk' [0, 1, 2] (by decide) rfl (by decide) ?_ (by cbv)).two
    conv => cbv
    exact ⟨he, trivial⟩
  · have hc : e0 ≠ 62 := eqI_f.1 hc
    have hs : ¬ sealed = true := by
      intro hs; exact hc (by rw [he0, takeE, if_pos hs])
    rw [if_neg hs] at he
    conv => cbv
    refine (LeOut.mk' [0, 1, 2] (by decide) rfl (by decide) ?_ (by cbv)).two
    conv => cbv
    exact ⟨he, trivial⟩
end Go.Proofs.Ytnefllaeleihcaa
end

/-
  tables: word, lies, lay, mayBe.
-/
section
namespace Go.Proofs.Ytnefllaeleihcaa
open Go Go.Vex
set_option maxRecDepth 20000
set_option maxHeartbeats 4000000
def wAt (tb ix : Int) : Int := if 4294967292 < tb + 4 * ix then 0 else tb + 4 * ix
def wOk (n tb ix : Int) : Bool := decide (tb + 4 * ix ≤ 4294967292 ∧ wordErr n (tb + 4 * ix) = 0)
def wW (n : Int) (f : Int → Int) (tb ix : Int) : Int := if wOk n tb ix = true then w32f f (tb + 4 * ix) else 0
noncomputable def I50 : FnT := [(50, fi Try.f50 ⟨[], 0⟩)]
theorem I50ok : FnsOk kit I50 := ⟨fo50 _, trivial⟩
theorem word_spec (n : Int) (f : Int → Int) (tb ix : Int) (hn : 1 ≤ n ∧ n ≤ 4096) (ht : 0 ≤ tb ∧ tb < 4294967296) (hi : 0 ≤ ix ∧ ix < 4294967296) {a w : Int} {b : Bool} (ha : a = wAt tb ix) (hw : w = wW n f tb ix) (hb : b = wOk n tb ix) :
    Spec1 kit 50 [.p 0 (.at 0), .i .u32 (.ex tb), .i .u32 (.ex ix)] [memB n f] false (.tup [.i .u32 (.ex a), .i .u32 (.ex w), .b (.ex b)]) [memB n f] [] := by
  refine Spec1.mk2 rfl fun F => ?_
  have c1 : convI .u64 tb = tb := by rw [convI_eq, wrap_u64]; omega
  have c2 : convI .u64 ix = ix := by rw [convI_eq, wrap_u64]; omega
  have hat : addI .u64 (convI .u64 tb) (mulI .u64 4 (convI .u64 ix)) = tb + 4 * ix := by
    rw [c1, c2, mulI_eq, wrap_u64, addI_eq, wrap_u64]; omega
  refine into I50ok 6 ?_
  conv => cbv
  refine Br.mk (fun hc => ?_) (fun hc => ?_)
  · have hc : 4294967292 < addI .u64 (convI .u64 tb) (mulI .u64 4 (convI .u64 ix)) := ltI_t.1 hc
    rw [hat] at hc
    have hb0 : wOk n tb ix = false := by rw [wOk, decide_eq_false_iff_not]; omega
    conv => cbv
    refine (LeOut.mk' [0, 1] (by decide) rfl (by decide) ?_ (by cbv)).two
    conv => cbv
    exact ⟨by rw [ha, wAt, if_pos hc], by rw [hw, wW, if_neg (by rw [hb0]; decide)], by rw [hb, hb0], trivial⟩
  · have hc : addI .u64 (convI .u64 tb) (mulI .u64 4 (convI .u64 ix)) ≤ 4294967292 := ltI_f.1 hc
    rw [hat] at hc
    obtain ⟨t, htt⟩ : ∃ x, tb + 4 * ix = x := ⟨_, rfl⟩
    rw [htt] at hat hc
    have hct : convI .u32 (addI .u64 (convI .u64 tb) (mulI .u64 4 (convI .u64 ix))) = t := by rw [hat, convI_eq, wrap_u32]; omega
    obtain ⟨e, he⟩ : ∃ x, x = wordErr n t := ⟨_, rfl⟩
    obtain ⟨w0, hw0⟩ : ∃ x, x = if e = 0 then w32f f t else 0 := ⟨_, rfl⟩
    have hbe : wOk n tb ix = decide (e = 0) := by rw [wOk, htt, he]; by_cases h : wordErr n t = 0 <;> simp [h, hc]
    conv => cbv
    refine OkCall.by_spec (load4_spec n t f hn (by omega) he hw0) [0] (by decide) ?_ (by cbv) ?_
    · conv => cbv
      exact ⟨hct.symm, trivial⟩
    conv => cbv
    refine (LeOut.mk' [0, 1] (by decide) rfl (by decide) ?_ (by cbv)).two
    conv => cbv
    refine ⟨?_, ?_, ?_, trivial⟩
    · show a = convI .u32 (addI .u64 (convI .u64 tb) (mulI .u64 4 (convI .u64 ix)))
      rw [hct, ha, wAt, htt, if_neg (by omega)]
    · rw [hw, wW, hbe, htt, hw0]
      by_cases h : e = 0 <;> simp [h]
    · show b = eqI e 0
      rw [hb, hbe, eqI_eq]; rfl
theorem word_nil (tb ix : Int) : Spec1 kit 50 [.nilp, .i .u32 (.ex tb), .i .u32 (.ex ix)] [] false (.tup [.i .u32 (.lit 0), .i .u32 (.lit 0), .b (.lit false)]) [] [] := by
  refine Spec1.mk2 rfl fun F => ?_
  refine into I50ok 6 ?_
  conv => cbv
  refine (LeOut.mk' [0] (by decide) rfl (by decide) (by cbv) (by cbv)).two
/-! ### lies -/
noncomputable def I52 : FnT := [(52, fi Try.f52 ⟨[], 0⟩), (77, fi Try.f77 ⟨[], 0⟩)]
theorem I52ok : FnsOk kit I52 := ⟨fo52 _, fo77 _, trivial⟩
theorem lies_spec (n : Int) (f : Int → Int) (fr : Int) (hf : 0 ≤ fr ∧ fr < 4294967296) {b : Bool} (hb : b = decide (fr < n)) : Spec1 kit 52 [.p 0 (.at 0), .i .u32 (.ex fr)] [memB n f] false (.b (.ex b)) [memB n f] [] := by
  refine Spec1.mk2 rfl fun F => OkCall.unfold 0 rfl (CallOk.of (fo52 ⟨[], 0⟩)) ?_
  rintro l ⟨kvs, hpg, hff, rfl⟩
  refine into I52ok 6 ?_
  conv => cbv
  refine LeOut2.imp (HImp.fold (S := memSh n f) 0 [2] [.cells 137 [.i .i64 (.ex n), .map 1], .abs (PM 158 kvs)] (by decide) (by cbv) ⟨kvs, hpg, hff, rfl⟩) ?_
  refine (LeOut.mk' [0, 1] (by decide) rfl (by decide) ?_ (by cbv)).two
  conv => cbv
  show b = ltI (convI .i64 fr) n
  rw [hb, ltI_eq, convI_eq, IntWalk.i64_in _ (by omega)]
/-! ### lay -/
noncomputable def I55 : FnT := [(55, fi Try.f55 ⟨[], 0⟩)]
theorem I55ok : FnsOk kit I55 := ⟨fo55 _, trivial⟩
def layF (n : Int) (f : Int → Int) (tb ix k p fr : Int) : Int → Int := storeF f n (IntKind.u32.wrap (tb + 4 * ix)) (encW k p fr)
theorem encW_u32 {k p f : Int} (hp : 0 ≤ p ∧ p < 256) (hf : 0 ≤ f) : 0 ≤ encW k p f ∧ encW k p f < 4294967296 := by
  unfold encW
  by_cases h : encE k p f = 0
  · rw [if_neg (by simp [h])]
    by_cases h0 : k = 0
    · rw [if_pos h0]; omega
    · rw [if_neg h0]
      rw [encE, if_neg h0] at h
      have hf2 : ¬ 4095 < f := by
        intro h4
        simp only [h4, if_true] at h
        split at h <;> split at h <;> first | omega | (split at h <;> omega)
      split <;> omega
  · rw [if_pos h]; omega
theorem lay_spec (n : Int) (f : Int → Int) (tb ix k p fr : Int) (hn : 1 ≤ n ∧ n ≤ 4096) (hp : 0 ≤ p ∧ p < 256) (hf : 0 ≤ fr ∧ fr < 4294967296) {g : Int → Int} (hg : g = layF n f tb ix k p fr) :
    Spec1 kit 55 [.p 0 (.at 0), .i .u32 (.ex tb), .i .u32 (.ex ix), .agg [.i .i64 (.ex k), .i .u8 (.ex p), .i .u32 (.ex fr)]] [memB n f] false (.tup []) [memB n g] [] := by
  refine Spec1.mk2 rfl fun F => ?_
  obtain ⟨e, he⟩ : ∃ x, x = encE k p fr := ⟨_, rfl⟩
  obtain ⟨w, hw⟩ : ∃ x, x = encW k p fr := ⟨_, rfl⟩
  have hwu := encW_u32 (k := k) hp hf.1
  rw [← hw] at hwu
  have hat : addI .u32 tb (mulI .u32 4 ix) = IntKind.u32.wrap (tb + 4 * ix) := by rw [mulI_eq, addI_eq, wrap_u32, wrap_u32, wrap_u32]; omega
  obtain ⟨t, htt⟩ : ∃ x, x = addI .u32 tb (mulI .u32 4 ix) := ⟨_, rfl⟩
  have htr : 0 ≤ t ∧ t < 4294967296 := by rw [htt, hat, wrap_u32]; omega
  obtain ⟨e2, he2⟩ : ∃ x, x = wordErr n t := ⟨_, rfl⟩
  have hg2 : g = storeF f n t w := by rw [hg, layF, htt, hat, hw]
  refine into I55ok 6 ?_
  conv => cbv
  refine OkCall.by_spec (enc_spec k p fr hp hf he hw) [] (by decide) (by cbv) trivial ?_
  conv => cbv
  refine OkCall.by_spec (store4_spec n t w f hn htr hwu he2 hg2) [0] (by decide) ?_ (by cbv) ?_
  · conv => cbv
    exact ⟨htt, trivial⟩
  conv => cbv
  refine (LeOut.mk' [0, 1] (by decide) rfl (by decide) (by cbv) (by cbv)).two
/-! ### mayBe -/
noncomputable def I39 : FnT := [(39, fi Try.f39 ⟨[], 0⟩), (72, fi Try.f72 ⟨[], 0⟩)]
theorem I39ok : FnsOk kit I39 := ⟨fo39 _, fo72 _, trivial⟩
/-- May a range be? -/
def mayB (v ph g p : Int) : Bool := decide (encE 1 p (ph / 4096) = 0 ∧ v % 4096 = 0 ∧ ph % 4096 = 0 ∧ 1 ≤ g ∧ g ≤ 1048576 - v / 4096 ∧ g ≤ 4096 - ph / 4096)
theorem may_spec (v ph g p : Int) (hv : 0 ≤ v ∧ v < 4294967296) (hph : 0 ≤ ph ∧ ph < 4294967296) (hp : 0 ≤ p ∧ p < 256) {b : Bool} (hb : b = mayB v ph g p) :
    Spec1 kit 39 [.agg [.i .u32 (.ex v), .i .u32 (.ex ph), .i .i64 (.ex g), .i .u8 (.ex p)]] [] false (.b (.ex b)) [] [] := by
  refine Spec1.mk2 rfl fun F => ?_
  refine into I39ok 6 ?_
  conv => cbv
  have hfr : addI .u32 (shrI .u32 ph 12) 0 = ph / 4096 := by
    have := shrI_u32 ph 12 (by decide)
    rw [show ((12 : Nat) : Int) = 12 from rfl] at this
    rw [this, addI_eq, wrap_u32]
    show (ph / 4096 + 0) % _ = _
    omega
  obtain ⟨pf, hpf⟩ : ∃ x, ph / 4096 = x := ⟨_, rfl⟩
  obtain ⟨e, he⟩ : ∃ x, x = encE 1 p pf := ⟨_, rfl⟩
  obtain ⟨w, hw⟩ : ∃ x, x = encW 1 p pf := ⟨_, rfl⟩
  refine OkCall.by_spec (enc_spec 1 p pf hp (by omega) he hw) [] (by decide) ?_ trivial ?_
  · conv => cbv
    exact ⟨⟨(hfr.trans hpf).symm, trivial⟩, trivial⟩
  conv => cbv
  have r1 : remI v 4096 = v % 4096 := by rw [remI_eq]; exact Int.tmod_eq_emod_of_nonneg hv.1
  have r2 : remI ph 4096 = ph % 4096 := by rw [remI_eq]; exact Int.tmod_eq_emod_of_nonneg hph.1
  have s1 : subI .i64 1048576 (convI .i64 (shrI .u32 v 12)) = 1048576 - v / 4096 := by
    have := shrI_u32 v 12 (by decide)
    rw [show ((12 : Nat) : Int) = 12 from rfl] at this
    rw [this, convI_eq, subI_eq, IntWalk.i64_in (v / 2 ^ 12) (by show _ ∧ _; omega), IntWalk.i64_in _ (by show _ ∧ _; omega)]
    rfl
  have s2 : subI .i64 4096 (convI .i64 (shrI .u32 ph 12)) = 4096 - ph / 4096 := by
    have := shrI_u32 ph 12 (by decide)
    rw [show ((12 : Nat) : Int) = 12 from rfl] at this
    rw [this, convI_eq, subI_eq, IntWalk.i64_in (ph / 2 ^ 12) (by show _ ∧ _; omega), IntWalk.i64_in _ (by show _ ∧ _; omega)]
    rfl
  -- what is left of b, once some of its parts have been seen
  have no : ¬ (encE 1 p (ph / 4096) = 0 ∧ v % 4096 = 0 ∧ ph % 4096 = 0 ∧ 1 ≤ g ∧ g ≤ 1048576 - v / 4096 ∧ g ≤ 4096 - ph / 4096) → b = false := fun h => by rw [hb, mayB, decide_eq_false_iff_not]; exact h
  refine Br.mk (fun h1 => ?_) (fun h1 => ?_)
  · have h1 : remI v 4096 = 0 := eqI_t.1 h1
    rw [r1] at h1
    conv => cbv
    refine Br.mk (fun h2 => ?_) (fun h2 => ?_)
    · have h2 : e = 0 := eqI_t.1 h2
      conv => cbv
      refine Br.mk (fun h3 => ?_) (fun h3 => ?_)
      · have h3 : remI ph 4096 = 0 := eqI_t.1 h3
        rw [r2] at h3
        conv => cbv
        refine Br.mk (fun h4 => ?_) (fun h4 => ?_)
        · have h4 : 1 ≤ g := leI_t.1 h4
          conv => cbv
          refine Br.mk (fun h5 => ?_) (fun h5 => ?_)
          · have h5 : g ≤ subI .i64 1048576 (convI .i64 (shrI .u32 v 12)) := leI_t.1 h5
            rw [s1] at h5
            conv => cbv
            refine (LeOut.mk' [0] (by decide) rfl (by decide) ?_ (by cbv)).two
            conv => cbv
            show b = leI g (subI .i64 4096 (convI .i64 (shrI .u32 ph 12)))
            rw [s2, leI_eq, hb, mayB]
            rw [hpf, ← he] at *
            simp only [h1, h2, h3, h4, h5, true_and]
          · have h5 : subI .i64 1048576 (convI .i64 (shrI .u32 v 12)) < g := leI_f.1 h5
            rw [s1] at h5
            have hb0 := no (fun h => by omega)
            conv => cbv
            refine (LeOut.mk' [0] (by decide) rfl (by decide) ?_ (by cbv)).two
            conv => cbv
            exact hb0
        · have h4 : g < 1 := leI_f.1 h4
          have hb0 := no (fun h => by omega)
          conv => cbv
          refine (LeOut.mk' [0] (by decide) rfl (by decide) ?_ (by cbv)).two
          conv => cbv
          exact hb0
      · have h3 : remI ph 4096 ≠ 0 := eqI_f.1 h3
        rw [r2] at h3
        have hb0 := no (fun h => h3 h.2.2.1)
        conv => cbv
        refine (LeOut.mk' [0] (by decide) rfl (by decide) ?_ (by cbv)).two
        conv => cbv
        exact hb0
    · have h2 : e ≠ 0 := eqI_f.1 h2
      have hb0 := no (fun h => h2 (by rw [he, ← hpf]; exact h.1))
      conv => cbv
      refine (LeOut.mk' [0] (by decide) rfl (by decide) ?_ (by cbv)).two
      conv => cbv
      exact hb0
  · have h1 : remI v 4096 ≠ 0 := eqI_f.1 h1
    rw [r1] at h1
    have hb0 := no (fun h => h1 h.2.1)
    conv => cbv
    refine Br.mk (fun h2 => ?_) (fun h2 => ?_)
    · skip
      conv => cbv
      refine (LeOut.mk' [0] (by decide) rfl (by decide) ?_ (by cbv)).two
      conv => cbv
      exact hb0
    · skip
      conv => cbv
      refine (LeOut.mk' [0] (by decide) rfl (by decide) ?_ (by cbv)).two
      conv => cbv
      exact hb0
end Go.Proofs.Ytnefllaeleihcaa
end

/-
  tables.Walk.
-/
section
namespace Go.Proofs.Ytnefllaeleihcaa
open Go Go.Vex
set_option maxRecDepth 20000
set_option maxHeartbeats 4000000
/-- Bytes. -/
def MemOk (f : Int → Int) : Prop := ∀ a, 0 ≤ f a ∧ f a < 256
theorem w32_u {f : Int → Int} (h : MemOk f) (a : Int) : 0 ≤ w32f f a ∧ w32f f a < 4294967296 := by
  have h0 := h a; have h1 := h (a + 1); have h2 := h (a + 2); have h3 := h (a + 3)
  unfold w32f; omega
theorem wW_u {f : Int → Int} (h : MemOk f) (n tb ix : Int) : 0 ≤ wW n f tb ix ∧ wW n f tb ix < 4294967296 := by
  unfold wW; split
  · exact w32_u h _
  · omega
theorem encE_f {k p f : Int} (hk : k = 1 ∨ k = 2) (h : encE k p f = 0) : f ≤ 4095 := by
  rcases hk with rfl | rfl
  · simp only [encE] at h
    by_cases h4 : 4095 < f
    · simp [h4] at h
      split at h <;> omega
    · omega
  · simp only [encE] at h
    by_cases h4 : 4095 < f
    · simp [h4] at h
      split at h <;> omega
    · omega
theorem decF_u {w : Int} (hw : 0 ≤ w ∧ w < 4294967296) (h : decE w = 0) : 0 ≤ decF w ∧ decF w ≤ 4095 := by
  unfold decF
  rw [if_neg (by simp [h])]
  by_cases h0 : w = 0
  · subst h0; decide
  · rw [decE, if_neg h0] at h
    split at h
    · omega
    · split at h
      · omega
      · have := encE_f (by split <;> simp) h
        omega
theorem decP_u {w : Int} (hw : 0 ≤ w ∧ w < 4294967296) : 0 ≤ decP w ∧ decP w < 256 := by
  unfold decP; split <;> omega
noncomputable def I19 : FnT := [(19, fi Try.f19 ⟨[], 3⟩), (56, fi Try.f56 ⟨[], 0⟩)]
theorem I19ok : FnsOk kit I19 := ⟨fo19 _, fo56 _, trivial⟩
/-- Where an address is; what was read on the way; why it may not be. -/
def walkP (n : Int) (f : Int → Int) (root v a : Int) : Int × List (Int × Int) × Int :=
  let i1 := v / 4096 / 1024
  let i2 := v / 4096 % 1024
  if wOk n root i1 = false then (0, [], 2) else
  let w1 := wW n f root i1
  let s1 := (wAt root i1, w1)
  if decE w1 ≠ 0 then (0, [s1], 4) else if decK w1 = 0 then (0, [s1], 3) else if decK w1 ≠ 2 then (0, [s1], 4) else
  let t := decF w1 * 4096
  if wOk n t i2 = false then (0, [s1], 2) else
  let w2 := wW n f t i2
  let s2 := (wAt t i2, w2)
  if decE w2 ≠ 0 then (0, [s1, s2], 4) else if decK w2 = 0 then (0, [s1, s2], 3) else if decK w2 ≠ 1 then (0, [s1, s2], 4) else
  if allowB (decP w2) a = false then (0, [s1, s2], 5) else if n ≤ decF w2 then (0, [s1, s2], 2) else (decF w2 * 4096 + v % 4096, [s1, s2], 0)
noncomputable def stepG (A B : List Int) (j : Nat) : List SV := [.i .u32 (.ex (gi A j)), .i .u32 (.ex (gi B j))]
noncomputable abbrev stepF (l : List (Int × Int)) : Nat → List SV := stepG (l.map (·.1)) (l.map (·.2))
def stepsV (x : Nat) (l : List (Int × Int)) (cap : Nat) : SV := match l with
  | [] => .nilslc
  | _ :: _ => .slc x 0 2 (.lit 0) (.ex l.length) (.ex cap)
noncomputable def stepsB (l : List (Int × Int)) (cap : Nat) : List Blk := match l with
  | [] => []
  | _ :: _ => [.cells 97 [.rows 2 (.ex l.length) (stepF l), .junk 2 (.ex (cap - l.length))]]
theorem fin1 {σ : List Nat} {N : Nat} {x : Int × Int} {cap : Nat} : ((∀ (j : Nat), j < (S.lit 1).val → leL [.i .u32 (.ex x.1), .i .u32 (.ex x.2)] (renL (tau σ N) (stepF [x] j))) ∧ cap - 1 = subN cap 1 ∧ True) ∧ True := by
  refine ⟨⟨fun j hj => ?_, by rw [subN_eq], trivial⟩, trivial⟩
  have : j = 0 := by simpa using hj
  subst this; refine ⟨⟨rfl, ?_⟩, ⟨rfl, ?_⟩, trivial⟩ <;> (show gi _ _ = _; rw [gi_eq]; rfl)
theorem fin2 {σ : List Nat} {N : Nat} {x y : Int × Int} {cap : Nat} (hc : 2 ≤ cap) : ((∀ (j : Nat), j < (S.lit 2).val → leL (jn (fun _ => [.i .u32 (.ex x.1), .i .u32 (.ex x.2)]) (fun _ => [.i .u32 (.ex y.1), .i .u32 (.ex y.2)]) 1 j) (renL (tau σ N) (stepF [x, y] j))) ∧ cap - 2 = subN cap 2 ∧ True) ∧ True := by
  refine ⟨⟨fun j hj => ?_, by rw [subN_eq], trivial⟩, trivial⟩
  have : j = 0 ∨ j = 1 := by have : j < 2 := hj; omega
  rw [jn_eq]
  rcases this with rfl | rfl <;> refine ⟨⟨rfl, ?_⟩, ⟨rfl, ?_⟩, trivial⟩ <;> (show gi _ _ = _; rw [gi_eq]; rfl)
theorem walk_gen (n : Int) (f : Int → Int) (root v a : Int) (hn : 1 ≤ n ∧ n ≤ 4096) (hm : MemOk f) (hr : 0 ≤ root ∧ root < 4294967296) (hv : 0 ≤ v ∧ v < 4294967296) {R : Bool → SV → List Blk → List Blk → Prop}
    (hR : ∀ addr steps fault cap, walkP n f root v a = (addr, steps, fault) → steps.length ≤ cap → R false (.tup [.i .u32 (.ex addr), stepsV 2 steps cap, .i .i64 (.ex fault)]) [memB n f] (stepsB steps cap)) :
    SpecM kit 19 [.p 0 (.at 0), .i .u32 (.ex root), .i .u32 (.ex v), .i .i64 (.ex a)] [memB n f] R := by
  refine SpecM.mk2 fun F => ?_
  obtain ⟨i1, hi1⟩ : ∃ x, v / 4096 / 1024 = x := ⟨_, rfl⟩
  obtain ⟨i2, hi2⟩ : ∃ x, v / 4096 % 1024 = x := ⟨_, rfl⟩
  have e1 : i1 = quoI .u32 (shrI .u32 v 12) 1024 := by
    have := shrI_u32 v 12 (by decide)
    rw [show ((12 : Nat) : Int) = 12 from rfl] at this
    rw [this, quoI_eq, Int.tdiv_eq_ediv_of_nonneg (by show 0 ≤ v / 4096; omega), wrap_u32]
    show i1 = v / 4096 / 1024 % 4294967296; omega
  have e2 : i2 = remI (shrI .u32 v 12) 1024 := by
    have := shrI_u32 v 12 (by decide)
    rw [show ((12 : Nat) : Int) = 12 from rfl] at this
    rw [this, remI_eq, Int.tmod_eq_emod_of_nonneg (by show 0 ≤ v / 4096; omega)]
    exact hi2.symm
  obtain ⟨a1, ha1⟩ : ∃ x, x = wAt root i1 := ⟨_, rfl⟩
  obtain ⟨w1, hw1⟩ : ∃ x, x = wW n f root i1 := ⟨_, rfl⟩
  obtain ⟨b1, hb1⟩ : ∃ x, x = wOk n root i1 := ⟨_, rfl⟩
  obtain ⟨k1, hk1⟩ : ∃ x, x = decK w1 := ⟨_, rfl⟩
  obtain ⟨p1, hp1⟩ : ∃ x, x = decP w1 := ⟨_, rfl⟩
  obtain ⟨f1, hf1⟩ : ∃ x, x = decF w1 := ⟨_, rfl⟩
  obtain ⟨er1, he1⟩ : ∃ x, x = decE w1 := ⟨_, rfl⟩
  obtain ⟨t1, ht1⟩ : ∃ x, f1 * 4096 = x := ⟨_, rfl⟩
  obtain ⟨a2, ha2⟩ : ∃ x, x = wAt t1 i2 := ⟨_, rfl⟩
  obtain ⟨w2, hw2⟩ : ∃ x, x = wW n f t1 i2 := ⟨_, rfl⟩
  obtain ⟨b2, hb2⟩ : ∃ x, x = wOk n t1 i2 := ⟨_, rfl⟩
  obtain ⟨k2, hk2⟩ : ∃ x, x = decK w2 := ⟨_, rfl⟩
  obtain ⟨p2, hp2⟩ : ∃ x, x = decP w2 := ⟨_, rfl⟩
  obtain ⟨f2, hf2⟩ : ∃ x, x = decF w2 := ⟨_, rfl⟩
  obtain ⟨er2, he2⟩ : ∃ x, x = decE w2 := ⟨_, rfl⟩
  obtain ⟨ba, hba⟩ : ∃ x, x = allowB p2 a := ⟨_, rfl⟩
  obtain ⟨bl, hbl⟩ : ∃ x, x = decide (f2 < n) := ⟨_, rfl⟩
  have hw1u : 0 ≤ w1 ∧ w1 < 4294967296 := by rw [hw1]; exact wW_u hm _ _ _
  have hw2u : 0 ≤ w2 ∧ w2 < 4294967296 := by rw [hw2]; exact wW_u hm _ _ _
  have hfr : er1 = 0 → 0 ≤ f1 ∧ f1 ≤ 4095 := fun h => by rw [hf1]; exact decF_u hw1u (by rw [← he1]; exact h)
  have hfr2 : er2 = 0 → 0 ≤ f2 ∧ f2 ≤ 4095 := fun h => by rw [hf2]; exact decF_u hw2u (by rw [← he2]; exact h)
  have hsh : er1 = 0 → shlI .u32 f1 12 = t1 := fun h => by rw [shl12 (hfr h), ← ht1]; show 4096 * f1 = _; omega
  have ht1u : er1 = 0 → 0 ≤ t1 ∧ t1 < 4294967296 := fun h => by have := hfr h; omega
  have hp2u : 0 ≤ p2 ∧ p2 < 256 := by rw [hp2]; exact decP_u hw2u
  have hf2u : er2 = 0 → 0 ≤ f2 ∧ f2 < 4294967296 := fun h => by have := hfr2 h; omega
  have hres : er2 = 0 → f2 * 4096 + v % 4096 = addI .u32 (shlI .u32 f2 12) (remI v 4096) := fun h => by
    have h2 := hfr2 h
    rw [shl12 h2, remI_eq, Int.tmod_eq_emod_of_nonneg hv.1, addI_eq, wrap_u32]
    show _ = (4096 * f2 + v % 4096) % _
    omega
  refine into I19ok 6 ?_
  conv => cbv
  refine OkCall.by_spec (word_spec n f root i1 hn hr (by omega) ha1 hw1 hb1) [0] (by decide) ?_ (by cbv) ?_
  · conv => cbv
    exact ⟨e1, trivial⟩
  conv => cbv
  refine Br.mk (fun hc => ?_) (fun hc => ?_)
  · have hc : notB b1 = true := hc
    rw [notB_eq, Bool.not_eq_true'] at hc
    subst hc
    conv => cbv
    refine ⟨_, _, _, _, hR 0 [] 2 0 (by simp [walkP, hi1, ← hb1]) (by simp), rfl, (LeOut.mk' [0, 1] (by decide) rfl (by decide) ?_ ?_).two⟩
    · conv => cbv
      trivial
    · conv => cbv
      trivial
  · have hc : notB b1 = false := hc
    rw [notB_eq, Bool.not_eq_false'] at hc
    subst hc
    conv => cbv
    refine ⟨by show apOk 1 8; rw [apOk_eq]; decide, AllN.mk fun cap1 hcap1 => ?_⟩
    refine OkCall.by_spec (dec_spec w1 hw1u hk1 hp1 hf1 he1) [] (by decide) (by cbv) trivial ?_
    conv => cbv
    refine Br.mk (fun h1 => ?_) (fun h1 => ?_)
    · have h1 : er1 ≠ 0 := neI_t.1 h1
      conv => cbv
      refine ⟨_, _, _, _, hR 0 [(a1, w1)] 4 cap1 (by simp [walkP, hi1, hi2, ← hb1, ← hw1, ← ha1, ← he1, ← hk1, ← hf1, h1]) (by simpa using hcap1), rfl, (LeOut.mk' [0, 1, 6] (by decide) rfl (by decide) ?_ ?_).two⟩
      · conv => cbv
        trivial
      · conv => cbv
        exact fin1 (x := (a1, w1))
    · have h1 : er1 = 0 := neI_f.1 h1
      conv => cbv
      refine Br.mk (fun h2 => ?_) (fun h2 => ?_)
      · have h2 : k1 = 0 := eqI_t.1 h2
        conv => cbv
        refine ⟨_, _, _, _, hR 0 [(a1, w1)] 3 cap1 (by simp [walkP, hi1, hi2, ← hb1, ← hw1, ← ha1, ← he1, ← hk1, ← hf1, h1, h2]) (by simpa using hcap1), rfl, (LeOut.mk' [0, 1, 6] (by decide) rfl (by decide) ?_ ?_).two⟩
        · conv => cbv
          trivial
        · conv => cbv
          exact fin1 (x := (a1, w1))
      · have h2 : k1 ≠ 0 := eqI_f.1 h2
        conv => cbv
        refine Br.mk (fun h3 => ?_) (fun h3 => ?_)
        · have h3 : k1 ≠ 2 := neI_t.1 h3
          conv => cbv
          refine ⟨_, _, _, _, hR 0 [(a1, w1)] 4 cap1 (by simp [walkP, hi1, hi2, ← hb1, ← hw1, ← ha1, ← he1, ← hk1, ← hf1, h1, h2, h3]) (by simpa using hcap1), rfl, (LeOut.mk' [0, 1, 6] (by decide) rfl (by decide) ?_ ?_).two⟩
          · conv => cbv
            trivial
          · conv => cbv
            exact fin1 (x := (a1, w1))
        · have h3 : k1 = 2 := neI_f.1 h3
          conv => cbv
          refine OkCall.by_spec (word_spec n f t1 i2 hn (ht1u h1) (by omega) ha2 hw2 hb2) [0] (by decide) ?_ (by cbv) ?_
          · conv => cbv
            exact ⟨(hsh h1).symm, e2, trivial⟩
          conv => cbv
          refine Br.mk (fun hc => ?_) (fun hc => ?_)
          · have hc : notB b2 = true := hc
            rw [notB_eq, Bool.not_eq_true'] at hc
            subst hc
            conv => cbv
            refine ⟨_, _, _, _, hR 0 [(a1, w1)] 2 cap1 (by simp [walkP, hi1, hi2, ← hb1, ← hw1, ← ha1, ← he1, ← hk1, ← hf1, h1, h2, h3, ht1, ← hb2]) (by simpa using hcap1), rfl, (LeOut.mk' [0, 1, 6] (by decide) rfl (by decide) ?_ ?_).two⟩
            · conv => cbv
              trivial
            · conv => cbv
              exact fin1 (x := (a1, w1))
          · have hc : notB b2 = false := hc
            rw [notB_eq, Bool.not_eq_false'] at hc
            subst hc
            conv => cbv
            refine ⟨by show eqN 1 1; rw [eqN_eq], by show eqN (addN 1 (subN cap1 1)) cap1; rw [eqN_eq, addN_eq, subN_eq]; omega, by show apOk 2 8; rw [apOk_eq]; decide, AllN.mk fun cap2 hcap2 => ?_⟩
            conv => cbv
            refine OkCall.by_spec (dec_spec w2 hw2u hk2 hp2 hf2 he2) [] (by decide) (by cbv) trivial ?_
            conv => cbv
            refine Br.mk (fun h4 => ?_) (fun h4 => ?_)
            · have h4 : er2 ≠ 0 := neI_t.1 h4
              conv => cbv
              refine ⟨_, _, _, _, hR 0 [(a1, w1), (a2, w2)] 4 cap2 (by simp [walkP, hi1, hi2, ← hb1, ← hw1, ← ha1, ← he1, ← hk1, ← hf1, h1, h3, ht1, ← hb2, ← hw2, ← ha2, ← he2, ← hk2, ← hp2, ← hf2, ← hba, h4]) (by simpa using hcap2), rfl, (LeOut.mk' [0, 1, 11] (by decide) rfl (by decide) ?_ ?_).two⟩
              · conv => cbv
                trivial
              · conv => cbv
                exact fin2 (x := (a1, w1)) (y := (a2, w2)) hcap2
            · have h4 : er2 = 0 := neI_f.1 h4
              conv => cbv
              refine Br.mk (fun h5 => ?_) (fun h5 => ?_)
              · have h5 : k2 = 0 := eqI_t.1 h5
                conv => cbv
                refine ⟨_, _, _, _, hR 0 [(a1, w1), (a2, w2)] 3 cap2 (by simp [walkP, hi1, hi2, ← hb1, ← hw1, ← ha1, ← he1, ← hk1, ← hf1, h1, h3, ht1, ← hb2, ← hw2, ← ha2, ← he2, ← hk2, ← hp2, ← hf2, ← hba, h4, h5]) (by simpa using hcap2), rfl, (LeOut.mk' [0, 1, 11] (by decide) rfl (by decide) ?_ ?_).two⟩
                · conv => cbv
                  trivial
                · conv => cbv
                  exact fin2 (x := (a1, w1)) (y := (a2, w2)) hcap2
              · have h5 : k2 ≠ 0 := eqI_f.1 h5
                conv => cbv
                refine Br.mk (fun h6 => ?_) (fun h6 => ?_)
                · have h6 : k2 ≠ 1 := neI_t.1 h6
                  conv => cbv
                  refine ⟨_, _, _, _, hR 0 [(a1, w1), (a2, w2)] 4 cap2 (by simp [walkP, hi1, hi2, ← hb1, ← hw1, ← ha1, ← he1, ← hk1, ← hf1, h1, h3, ht1, ← hb2, ← hw2, ← ha2, ← he2, ← hk2, ← hp2, ← hf2, ← hba, h4, h5, h6]) (by simpa using hcap2), rfl, (LeOut.mk' [0, 1, 11] (by decide) rfl (by decide) ?_ ?_).two⟩
                  · conv => cbv
                    trivial
                  · conv => cbv
                    exact fin2 (x := (a1, w1)) (y := (a2, w2)) hcap2
                · have h6 : k2 = 1 := neI_f.1 h6
                  conv => cbv
                  refine OkCall.by_spec (allow_spec p2 a hp2u hba) [] (by decide) (by cbv) trivial ?_
                  conv => cbv
                  refine Br.mk (fun h7 => ?_) (fun h7 => ?_)
                  · have h7 : notB ba = true := h7
                    rw [notB_eq, Bool.not_eq_true'] at h7
                    subst h7
                    conv => cbv
                    refine ⟨_, _, _, _, hR 0 [(a1, w1), (a2, w2)] 5 cap2 (by simp [walkP, hi1, hi2, ← hb1, ← hw1, ← ha1, ← he1, ← hk1, ← hf1, h1, h3, ht1, ← hb2, ← hw2, ← ha2, ← he2, ← hk2, ← hp2, ← hf2, ← hba, h4, h6]) (by simpa using hcap2), rfl, (LeOut.mk' [0, 1, 11] (by decide) rfl (by decide) ?_ ?_).two⟩
                    · conv => cbv
                      trivial
                    · conv => cbv
                      exact fin2 (x := (a1, w1)) (y := (a2, w2)) hcap2
                  · have h7 : notB ba = false := h7
                    rw [notB_eq, Bool.not_eq_false'] at h7
                    subst h7
                    conv => cbv
                    refine OkCall.by_spec (lies_spec n f f2 (hf2u h4) hbl) [0] (by decide) (by cbv) (by cbv) ?_
                    conv => cbv
                    refine Br.mk (fun h8 => ?_) (fun h8 => ?_)
                    · have h8 : notB bl = true := h8
                      rw [notB_eq, Bool.not_eq_true'] at h8
                      rw [h8] at hbl
                      have h9 : n ≤ f2 := by have := of_decide_eq_false hbl.symm; omega
                      conv => cbv
                      refine ⟨_, _, _, _, hR 0 [(a1, w1), (a2, w2)] 2 cap2 (by simp [walkP, hi1, hi2, ← hb1, ← hw1, ← ha1, ← he1, ← hk1, ← hf1, h1, h3, ht1, ← hb2, ← hw2, ← ha2, ← he2, ← hk2, ← hp2, ← hf2, ← hba, h4, h6, h9]) (by simpa using hcap2), rfl, (LeOut.mk' [0, 1, 11] (by decide) rfl (by decide) ?_ ?_).two⟩
                      · conv => cbv
                        trivial
                      · conv => cbv
                        exact fin2 (x := (a1, w1)) (y := (a2, w2)) hcap2
                    · have h8 : notB bl = false := h8
                      rw [notB_eq, Bool.not_eq_false'] at h8
                      rw [h8] at hbl
                      have h9 : ¬ n ≤ f2 := by have := of_decide_eq_true hbl.symm; omega
                      conv => cbv
                      refine ⟨_, _, _, _, hR (f2 * 4096 + v % 4096) [(a1, w1), (a2, w2)] 0 cap2 (by simp [walkP, hi1, hi2, ← hb1, ← hw1, ← ha1, ← he1, ← hk1, ← hf1, h1, h3, ht1, ← hb2, ← hw2, ← ha2, ← he2, ← hk2, ← hp2, ← hf2, ← hba, h4, h6, h9]) (by simpa using hcap2), rfl, (LeOut.mk' [0, 1, 11] (by decide) rfl (by decide) ?_ ?_).two⟩
                      · conv => cbv
                        exact ⟨hres h4, trivial⟩
                      · conv => cbv
                        exact fin2 (x := (a1, w1)) (y := (a2, w2)) hcap2
end Go.Proofs.Ytnefllaeleihcaa
end

/-
  tables: slices.Contains, slices.ContainsFunc of ranges that may not be.
-/
section
namespace Go.Proofs.Ytnefllaeleihcaa
open Go Go.Vex
set_option maxRecDepth 20000
set_option maxHeartbeats 4000000
noncomputable def I53 : FnT := [(53, fi Try.f53 ⟨[], 0⟩), (80, fi Try.f80 ⟨[], 0⟩)]
theorem I53ok : FnsOk kit I53 := ⟨fo53 _, fo80 _, trivial⟩
theorem getD_nat {l : List Int} {z : Int} (h0 : 0 ≤ z) (h : z.toNat < l.length) : l.getD z.toNat 0 ∈ l := by
  rw [List.getD_eq_getElem?_getD, List.getElem?_eq_getElem h]; simp
noncomputable def I53n : FnT := [(53, fi Try.f53 ⟨[], 0⟩), (80, fi Try.f80 ⟨[], 1⟩)]
theorem I53nok : FnsOk kit I53n := ⟨fo53 _, fo80 _, trivial⟩
theorem contains_nil (v : Int) : Spec1 kit 53 [.nilslc, .i .u32 (.ex v)] [] true (.b (.lit false)) [] [] := by
  refine Spec1.mk2 rfl fun F => ?_
  refine into I53nok 6 ?_
  conv => cbv
  exact (LeOut.mk' [0] (by decide) (by rfl) (fun h => h) (by cbv) (by cbv)).two
theorem contains_spec (l : List Int) (m cap : Nat) (hm : l.length = m) (hm0 : m < 9223372036854775808) (v : Int) {b : Bool} (hb : b = decide (v ∈ l)) : Spec1 kit 53 [.slc 0 0 1 (.lit 0) (.ex m) (.ex cap), .i .u32 (.ex v)] [.ro [.ints .u32 (.ex m) l]] true (.b (.ex b)) [.ro [.ints .u32 (.ex m) l]] [] := by
  refine Spec1.mk2 rfl fun F => ?_
  refine into I53ok 6 ?_
  conv => cbv
  refine byInv I53ok 6 ⟨[], 0⟩ (fun z : Int => ⟨[(8, .i .i64 (.ex z)), (7, .i .i64 (.ex (ofN m))), (0, .slc 0 0 1 (.lit 0) (.ex m) (.ex cap)), (1, .i .u32 (.ex v))], [.ro [.ints .u32 (.ex m) l], .abs F]⟩)
    (fun z => (m - z).toNat) (fun z => 0 ≤ z ∧ z ≤ m ∧ ∀ j, j < z.toNat → l.getD j 0 ≠ v) true 0 (by kernel_rfl) ⟨by omega, by omega, fun j hj => by simp at hj⟩ (LeSt.mk' [0, 1] (by decide) (by rfl) (by decide) (by cbv) (by cbv)) ?_
  rintro z ⟨hz0, hz1, hz2⟩
  conv => cbv
  refine Br.mk (fun hc => ?_) (fun hc => ?_)
  · have hc : z < (m : Int) := by have h : z < ofN m := ltI_t.1 hc; rw [ofN_eq] at h; exact h
    obtain ⟨z1, hz1'⟩ : ∃ x, z + 1 = x := ⟨_, rfl⟩
    conv => cbv
    refine ⟨inR.mk hz0 hc, nLt.mk (by simp only [leafs]; omega), Br.mk (fun hd => ?_) (fun hd => ?_)⟩
    · have hd : v = gi l (toN z) := eqI_t.1 hd
      rw [gi_eq, toN_eq] at hd
      have hyes : b = true := by
        rw [hb, decide_eq_true_eq, hd]
        exact getD_nat hz0 (by omega)
      conv => cbv
      refine (LeOut.mk' [0, 1] (by decide) (by rfl) (fun h => h) ?_ (by cbv)).two
      conv => cbv
      rw [hyes]
      show true = leI 0 z
      rw [leI_eq]; simp [hz0]
    · have hd : v ≠ gi l (toN z) := eqI_f.1 hd
      rw [gi_eq, toN_eq] at hd
      conv => cbv
      refine ⟨z1, ⟨⟨by omega, by show z1 ≤ (m : Int); omega, fun j hj => ?_⟩, by show ((m : Int) - z1).toNat < ((m : Int) - z).toNat; omega⟩, _, (HImp.refl _).ext, LeSt.mk' [0, 1] (by decide) (by rfl) (by decide) ?_ (by cbv)⟩
      · by_cases hjz : j < z.toNat
        · exact hz2 j hjz
        · have : j = z.toNat := by omega
          rw [this]; exact Ne.symm hd
      · conv => cbv
        refine ⟨?_, trivial⟩
        show z1 = addI .i64 z 1
        rw [addI_eq, IntWalk.i64_in _ (by omega), hz1']
  · have hc : (m : Int) ≤ z := by have h : ofN m ≤ z := ltI_f.1 hc; rw [ofN_eq] at h; exact h
    have hno : b = false := by
      rw [hb, decide_eq_false_iff_not]
      intro hv
      obtain ⟨j, hj, e⟩ := List.getElem_of_mem hv
      refine hz2 j (by omega) ?_
      rw [List.getD_eq_getElem?_getD, List.getElem?_eq_getElem hj]; simpa using e
    conv => cbv
    refine (LeOut.mk' [0, 1] (by decide) (by rfl) (fun h => h) ?_ (by cbv)).two
    conv => cbv
    exact hno
theorem contains_spec2 (l : List Int) (m cap jc : Nat) (hm : l.length = m) (hm0 : m < 9223372036854775808) (v : Int) {b : Bool} (hb : b = decide (v ∈ l)) : Spec1 kit 53 [.slc 0 0 1 (.lit 0) (.ex m) (.ex cap), .i .u32 (.ex v)] [.cells 27 [.ints .u32 (.ex m) l, .junk 1 (.ex jc)]] true (.b (.ex b)) [.cells 27 [.ints .u32 (.ex m) l, .junk 1 (.ex jc)]] [] := by
  refine Spec1.mk2 rfl fun F => ?_
  refine into I53ok 6 ?_
  conv => cbv
  refine byInv I53ok 6 ⟨[], 0⟩ (fun z : Int => ⟨[(8, .i .i64 (.ex z)), (7, .i .i64 (.ex (ofN m))), (0, .slc 0 0 1 (.lit 0) (.ex m) (.ex cap)), (1, .i .u32 (.ex v))], [.cells 27 [.ints .u32 (.ex m) l, .junk 1 (.ex jc)], .abs F]⟩)
    (fun z => (m - z).toNat) (fun z => 0 ≤ z ∧ z ≤ m ∧ ∀ j, j < z.toNat → l.getD j 0 ≠ v) true 0 (by kernel_rfl) ⟨by omega, by omega, fun j hj => by simp at hj⟩ (LeSt.mk' [0, 1] (by decide) (by rfl) (by decide) (by cbv) (by cbv)) ?_
  rintro z ⟨hz0, hz1, hz2⟩
  conv => cbv
  refine Br.mk (fun hc => ?_) (fun hc => ?_)
  · have hc : z < (m : Int) := by have h : z < ofN m := ltI_t.1 hc; rw [ofN_eq] at h; exact h
    obtain ⟨z1, hz1'⟩ : ∃ x, z + 1 = x := ⟨_, rfl⟩
    conv => cbv
    refine ⟨inR.mk hz0 hc, nLt.mk (by simp only [leafs]; omega), Br.mk (fun hd => ?_) (fun hd => ?_)⟩
    · have hd : v = gi l (toN z) := eqI_t.1 hd
      rw [gi_eq, toN_eq] at hd
      have hyes : b = true := by
        rw [hb, decide_eq_true_eq, hd]
        exact getD_nat hz0 (by omega)
      conv => cbv
      refine (LeOut.mk' [0, 1] (by decide) (by rfl) (fun h => h) ?_ (by cbv)).two
      conv => cbv
      rw [hyes]
      show true = leI 0 z
      rw [leI_eq]; simp [hz0]
    · have hd : v ≠ gi l (toN z) := eqI_f.1 hd
      rw [gi_eq, toN_eq] at hd
      conv => cbv
      refine ⟨z1, ⟨⟨by omega, by show z1 ≤ (m : Int); omega, fun j hj => ?_⟩, by show ((m : Int) - z1).toNat < ((m : Int) - z).toNat; omega⟩, _, (HImp.refl _).ext, LeSt.mk' [0, 1] (by decide) (by rfl) (by decide) ?_ (by cbv)⟩
      · by_cases hjz : j < z.toNat
        · exact hz2 j hjz
        · have : j = z.toNat := by omega
          rw [this]; exact Ne.symm hd
      · conv => cbv
        refine ⟨?_, trivial⟩
        show z1 = addI .i64 z 1
        rw [addI_eq, IntWalk.i64_in _ (by omega), hz1']
  · have hc : (m : Int) ≤ z := by have h : ofN m ≤ z := ltI_f.1 hc; rw [ofN_eq] at h; exact h
    have hno : b = false := by
      rw [hb, decide_eq_false_iff_not]
      intro hv
      obtain ⟨j, hj, e⟩ := List.getElem_of_mem hv
      refine hz2 j (by omega) ?_
      rw [List.getD_eq_getElem?_getD, List.getElem?_eq_getElem hj]; simpa using e
    conv => cbv
    refine (LeOut.mk' [0, 1] (by decide) (by rfl) (fun h => h) ?_ (by cbv)).two
    conv => cbv
    exact hno
/-- Ranges: where they are seen, where they are, how many pages, what may be done. -/
structure Rgs where
  V : List Int
  PH : List Int
  G : List Int
  P : List Int
structure RgsOk (L : Rgs) (m : Nat) : Prop where
  v : ∀ j, 0 ≤ L.V.getD j 0 ∧ L.V.getD j 0 < 4294967296
  ph : ∀ j, 0 ≤ L.PH.getD j 0 ∧ L.PH.getD j 0 < 4294967296
  g : ∀ j, -9223372036854775808 ≤ L.G.getD j 0 ∧ L.G.getD j 0 < 9223372036854775808
  p : ∀ j, 0 ≤ L.P.getD j 0 ∧ L.P.getD j 0 < 256
  m : m < 4611686018427387904
noncomputable def rngF (V PH G P : List Int) (j : Nat) : List SV := [.i .u32 (.ex (gi V j)), .i .u32 (.ex (gi PH j)), .i .i64 (.ex (gi G j)), .i .u8 (.ex (gi P j))]
theorem rngF_le {V PH G P : List Int} (τ : Nat → Nat) (j : Nat) : leL (rngF V PH G P j) (renL τ (rngF V PH G P j)) := ⟨⟨rfl, rfl⟩, ⟨rfl, rfl⟩, ⟨rfl, rfl⟩, ⟨rfl, rfl⟩, trivial⟩
def badR (L : Rgs) (j : Nat) : Bool := !mayB (L.V.getD j 0) (L.PH.getD j 0) (L.G.getD j 0) (L.P.getD j 0)
noncomputable abbrev rngB (L : Rgs) (m : Nat) : Blk := .ro [.rows 4 (.ex m) (rngF L.V L.PH L.G L.P)]
noncomputable def I46 : FnT := [(46, fi Try.f46 ⟨[], 0⟩), (78, fi Try.f78 ⟨[], 0⟩), (47, fi Try.f47 ⟨[], 0⟩)]
theorem I46ok : FnsOk kit I46 := ⟨fo46 _, fo78 _, fo47 _, trivial⟩
theorem bad_spec (V PH G P : List Int) (m cap : Nat) (hL : RgsOk ⟨V, PH, G, P⟩ m) {b : Bool} (hb : b = (List.range m).any (badR ⟨V, PH, G, P⟩)) :
    Spec1 kit 46 [.slc 0 0 4 (.lit 0) (.ex m) (.ex cap), .fn (.func 47) [] []] [.ro [.rows 4 (.ex m) (rngF V PH G P)]] false (.b (.ex b)) [.ro [.rows 4 (.ex m) (rngF V PH G P)]] [] := by
  obtain ⟨h1, h2, h3, h4, h5⟩ := hL
  simp only at h1 h2 h3 h4
  refine Spec1.mk2 rfl fun F => ?_
  refine into I46ok 6 ?_
  conv => cbv
  refine byInv I46ok 6 ⟨[], 0⟩ (fun z : Int => ⟨[(8, .i .i64 (.ex z)), (7, .i .i64 (.ex (ofN m))), (0, .slc 0 0 4 (.lit 0) (.ex m) (.ex cap)), (1, .fn (.func 47) [] [])], [.ro [.rows 4 (.ex m) (rngF V PH G P)], .abs F]⟩)
    (fun z => (m - z).toNat) (fun z => 0 ≤ z ∧ z ≤ m ∧ ∀ j, j < z.toNat → badR ⟨V, PH, G, P⟩ j = false) false 0 (by kernel_rfl) ⟨by omega, by omega, fun j hj => by simp at hj⟩ (LeSt.mk' [0, 1] (by decide) (by rfl) (by decide) (by cbv) ?_) ?_
  · conv => cbv
    exact ⟨⟨fun j _ => rngF_le _ _, trivial⟩, trivial⟩
  rintro z ⟨hz0, hz1, hz2⟩
  obtain ⟨z1, hz1'⟩ : ∃ x, z + 1 = x := ⟨_, rfl⟩
  obtain ⟨k, hk⟩ : ∃ x : Nat, z.toNat = x := ⟨_, rfl⟩
  obtain ⟨vk, hvk⟩ : ∃ x, x = V.getD k 0 := ⟨_, rfl⟩
  obtain ⟨phk, hphk⟩ : ∃ x, x = PH.getD k 0 := ⟨_, rfl⟩
  obtain ⟨gk, hgk⟩ : ∃ x, x = G.getD k 0 := ⟨_, rfl⟩
  obtain ⟨pk, hpk⟩ : ∃ x, x = P.getD k 0 := ⟨_, rfl⟩
  obtain ⟨bm, hbm⟩ : ∃ x, x = mayB vk phk gk pk := ⟨_, rfl⟩
  conv => cbv
  refine Br.mk (fun hc => ?_) (fun hc => ?_)
  · have hc : z < (m : Int) := by have h : z < ofN m := ltI_t.1 hc; rw [ofN_eq] at h; exact h
    conv => cbv
    refine ⟨inR.mk hz0 hc, nLt.mk (by simp only [leafs]; omega), ?_⟩
    refine OkCall.by_spec (may_spec vk phk gk pk (hvk ▸ h1 k) (hphk ▸ h2 k) (hpk ▸ h4 k) hbm) [] (by decide) ?_ trivial ?_
    · conv => cbv
      refine ⟨⟨?_, ?_, ?_, ?_, trivial⟩, trivial⟩
      · show vk = gi V (toN z); rw [gi_eq, toN_eq, hk, hvk]
      · show phk = gi PH (toN z); rw [gi_eq, toN_eq, hk, hphk]
      · show gk = gi G (toN z); rw [gi_eq, toN_eq, hk, hgk]
      · show pk = gi P (toN z); rw [gi_eq, toN_eq, hk, hpk]
    conv => cbv
    refine Br.mk (fun hd => ?_) (fun hd => ?_)
    · have hd : notB bm = true := hd
      rw [notB_eq, Bool.not_eq_true'] at hd
      have hyes : b = true := by
        rw [hb, List.any_eq_true]
        exact ⟨k, List.mem_range.2 (by omega), by simp only [badR]; rw [← hvk, ← hphk, ← hgk, ← hpk, ← hbm, hd]; rfl⟩
      conv => cbv
      refine (LeOut.mk' [0, 1] (by decide) (by rfl) (by decide) ?_ ?_).two
      · conv => cbv
        rw [hyes]
        show true = leI 0 z
        rw [leI_eq]; simp [hz0]
      · conv => cbv
        exact ⟨⟨fun j _ => rngF_le _ _, trivial⟩, trivial⟩
    · have hd : notB bm = false := hd
      rw [notB_eq, Bool.not_eq_false'] at hd
      conv => cbv
      refine ⟨z1, ⟨⟨by omega, by show z1 ≤ (m : Int); omega, fun j hj => ?_⟩, by show ((m : Int) - z1).toNat < ((m : Int) - z).toNat; omega⟩, _, (HImp.refl _).ext, LeSt.mk' [0, 1] (by decide) (by rfl) (by decide) ?_ ?_⟩
      · by_cases hjz : j < z.toNat
        · exact hz2 j hjz
        · have : j = k := by omega
          subst this
          simp only [badR]; rw [← hvk, ← hphk, ← hgk, ← hpk, ← hbm, hd]; rfl
      · conv => cbv
        refine ⟨?_, trivial⟩
        show z1 = addI .i64 z 1
        rw [addI_eq, IntWalk.i64_in _ (by omega), hz1']
      · conv => cbv
        exact ⟨⟨fun j _ => rngF_le _ _, trivial⟩, trivial⟩
  · have hc : (m : Int) ≤ z := by have h : ofN m ≤ z := ltI_f.1 hc; rw [ofN_eq] at h; exact h
    have hno : b = false := by
      rw [hb, List.any_eq_false]
      intro x hx
      have := hz2 x (by have := List.mem_range.1 hx; omega)
      rw [this]; decide
    conv => cbv
    refine (LeOut.mk' [0, 1] (by decide) (by rfl) (by decide) ?_ ?_).two
    · conv => cbv
      exact hno
    · conv => cbv
      exact ⟨⟨fun j _ => rngF_le _ _, trivial⟩, trivial⟩
end Go.Proofs.Ytnefllaeleihcaa
end

/-
  tables.Map: the first pass.
-/
section
namespace Go.Proofs.Ytnefllaeleihcaa
open Go Go.Vex
set_option maxRecDepth 20000
set_option maxHeartbeats 4000000
/-- The ranges over functions of a code. -/
def rfs : Code → List Code
  | .seq a b => rfs a ++ rfs b
  | .cond _ a b => rfs a ++ rfs b
  | .block _ b => rfs b
  | .scope b => rfs b
  | .loop b => rfs b
  | .rangeFunc g ps a b => .rangeFunc g ps a b :: rfs b
  | _ => []
def rfBody : List Code → Code
  | .rangeFunc _ _ _ b :: _ => b
  | _ => .skip
noncomputable def bd1 : Code := rfBody (rfs (Try.f17.body.getD .skip))
noncomputable def bd2 : Code := rfBody ((rfs (Try.f17.body.getD .skip)).drop 1)
noncomputable def kd119 : TypeDesc := (Try.prog.underlying 119).getD (.int .u32)
noncomputable def fld (t i : Nat) : Field := match Try.prog.underlying t with
  | some (.struct fs) => match fs.toList.drop i with
    | f :: _ => f
    | [] => ⟨"", 0, 0, false, "", "", 0⟩
  | _ => ⟨"", 0, 0, false, "", "", 0⟩
theorem mt113 : MapT kit 113 119 100 kd119 (.agg #[]) := ⟨by rw [kit_P]; kernel_rfl, by rw [kit_P]; kernel_rfl, by rw [kit_P]; kernel_rfl⟩
theorem kp119 : KeyT kit 119 pairV := KeyT.pair (f1 := fld 119 0) (f2 := fld 119 1) (by rw [kit_P]; kernel_rfl) (by rw [kit_P]; kernel_rfl) (by kernel_rfl) (by kernel_rfl) (k1 := .u32) (k2 := .u32) (by rw [kit_P]; kernel_rfl) (by rw [kit_P]; kernel_rfl) (by rw [kit_P]; kernel_rfl) (by rw [kit_P]; kernel_rfl)
theorem mt114 : MapT kit 114 27 27 (.int .u32) (.int .u32 0) := ⟨by rw [kit_P]; kernel_rfl, by rw [kit_P]; kernel_rfl, by rw [kit_P]; kernel_rfl⟩
/-- What has been seen; the tables that there are; those that are wanted. -/
structure PS where
  seen : List (Int × Int)
  tabs : List (Int × Value)
  wanted : List Int
def seenL (l : List (Int × Int)) : List ((Int × Int) × Value) := l.map fun x => (x, .agg #[])
/-- wanted, in its variable: nil, or a row. -/
def wanSh (l : List Int) (bs : List Blk) : Prop := (l = [] ∧ bs = [.cells 89 [.nilslc]]) ∨ (l ≠ [] ∧ ∃ cap, l.length ≤ cap ∧ bs = [.cells 89 [.slc 1 0 1 (.lit 0) (.ex l.length) (.ex cap)], .cells 27 [.ints .u32 (.ex l.length) l, .junk 1 (.ex (cap - l.length))]])
abbrev wanB (l : List Int) : Blk := .pk (wanSh l)
noncomputable def I56 : FnT := [(56, fi Try.f56 ⟨[], 0⟩), (72, fi Try.f72 ⟨[], 0⟩)]
theorem I56ok : FnsOk kit I56 := ⟨fo56 _, fo72 _, trivial⟩
theorem place_spec (pg : Int) (h : 0 ≤ pg ∧ pg < 4294967296) {a b : Int} (ha : a = pg / 1024) (hb : b = pg % 1024) : Spec1 kit 56 [.i .u32 (.ex pg)] [] false (.agg [.i .u32 (.ex a), .i .u32 (.ex b)]) [] [] := by
  refine Spec1.mk2 rfl fun F => ?_
  refine into I56ok 6 ?_
  conv => cbv
  refine (LeOut.mk' [0] (by decide) rfl (by decide) ?_ (by cbv)).two
  conv => cbv
  refine ⟨?_, ?_, trivial⟩
  · show a = quoI .u32 pg 1024
    rw [quoI_eq, Int.tdiv_eq_ediv_of_nonneg h.1, wrap_u32, ha]; omega
  · show b = remI pg 1024
    rw [remI_eq, Int.tmod_eq_emod_of_nonneg h.1, hb]
theorem pageOf_spec (v ph g p k : Int) (hph : 0 ≤ ph ∧ ph < 4294967296) (hk : 0 ≤ k ∧ ph / 4096 + k < 4294967296) {fr : Int} (hfr : fr = ph / 4096 + k) :
    Spec1 kit 72 [.agg [.i .u32 (.ex v), .i .u32 (.ex ph), .i .i64 (.ex g), .i .u8 (.ex p)], .i .u32 (.ex k)] [] false (.agg [.i .i64 (.lit 1), .i .u8 (.ex p), .i .u32 (.ex fr)]) [] [] := by
  refine Spec1.mk2 rfl fun F => ?_
  refine into I56ok 6 ?_
  conv => cbv
  refine (LeOut.mk' [0] (by decide) rfl (by decide) ?_ (by cbv)).two
  conv => cbv
  refine ⟨?_, trivial⟩
  show fr = addI .u32 (shrI .u32 ph 12) k
  have := shrI_u32 ph 12 (by decide)
  rw [show ((12 : Nat) : Int) = 12 from rfl] at this
  rw [this, addI_eq, wrap_u32, hfr]
  show _ = (ph / 4096 + k) % _
  omega
noncomputable def I79 : FnT := [(79, fi Try.f79 ⟨[2006007, 3006006, 3006009, 4006016], 0⟩)]
theorem I79ok : FnsOk kit I79 := ⟨foO _ Try.func79 (by kernel_rfl) (by decide +kernel) (by kernel_rfl), trivial⟩
/-- A page's word is looked at, and what it asks is noted; none: something is there. -/
def mStep (n : Int) (f : Int → Int) (root : Int) (s : PS) (x : Int × Int) : Option PS :=
  if x ∈ s.seen then none else
  let w := wW n f root x.1
  if wOk n root x.1 = false ∨ decE w ≠ 0 ∨ decK w = 1 ∨ (decK w = 2 ∧ n ≤ decF w) then none else
  if decK w = 0 then some ⟨s.seen ++ [x], s.tabs, if x.1 ∈ s.wanted then s.wanted else s.wanted ++ [x.1]⟩ else
  if wW n f (decF w * 4096) x.2 ≠ 0 then none else some ⟨s.seen ++ [x], putA x.1 (.int .u32 (decF w * 4096)) s.tabs, s.wanted⟩
def pgOf (L : Rgs) (i j : Nat) : Int × Int := ((L.V.getD i 0 / 4096 + j) / 1024, (L.V.getD i 0 / 4096 + j) % 1024)
def pgsOf (L : Rgs) (i k : Nat) : List (Int × Int) := (List.range k).map (pgOf L i)
def allPgs (L : Rgs) (i : Nat) : List (Int × Int) := (List.range i).flatMap fun a => pgsOf L a (L.G.getD a 0).toNat
theorem fA_seen {x : Int × Int} : ∀ {l : List (Int × Int)} (i : Nat), (fA x (seenL l) i = none ↔ x ∉ l)
  | [], i => by simp [seenL, fA]
  | a :: r, i => by
    have ih := fA_seen (x := x) (l := r) (i + 1)
    simp only [seenL, List.map_cons, fA] at ih ⊢
    by_cases h : a = x
    · rw [if_pos h]; simp [h]
    · rw [if_neg h, List.mem_cons, not_or]
      exact ⟨fun h1 => ⟨Ne.symm h, ih.1 h1⟩, fun h1 => ih.2 h1.2⟩
theorem lookupE {C : Kit} {fr : Fr} {hp : List Blk} {K : SV → List Blk → Prop} {t kt et : Nat} {kd : TypeDesc} {z : Value} {α : Type} [DecidableEq α] {kv : α → Value} {m k : Operand} {ok : Bool} {x : Nat} {kS : SV} {E : List (Value × Value)} {L : List (α × Value)} (hE : E = entA kv L) (hT : MapT C t kt et kd z) (hK : KeyT C kt kv)
    (em : ev fr hp m = some (.map x)) (ek : ev fr hp k = some kS) (hx : hp[x]? = some (.abs (MP E))) (n : α) (hn : ∀ ρ c, Den ρ kS c → c = kv n) (v : SV)
    (hv : ∀ ρ, Den ρ v (match fA n L 0 with
      | some (_, v) => if ok = true then .tuple #[v, .bool true] else v
      | none => if ok = true then .tuple #[z, .bool false] else z)) (hk : K v hp) : XOpN C (.lookup t m k ok) fr hp K := by
  subst hE; exact XOpN.lookupMP hT hK em ek hx n hn v hv hk
theorem updateE {C : Kit} {fr : Fr} {hp : List Blk} {K : SV → List Blk → Prop} {t kt et : Nat} {kd : TypeDesc} {z : Value} {α : Type} [DecidableEq α] {kv : α → Value} {m k y : Operand} {x : Nat} {kS vS : SV} {E E' : List (Value × Value)} {L : List (α × Value)} (hE : E = entA kv L) (hT : MapT C t kt et kd z) (hK : KeyT C kt kv)
    (em : ev fr hp m = some (.map x)) (ek : ev fr hp k = some kS) (ey : ev fr hp y = some vS) (hx : hp[x]? = some (.abs (MP E))) (n : α) (hn : ∀ ρ c, Den ρ kS c → c = kv n) (v : Value) (hv : ∀ ρ c, Den ρ vS c → c = v) (hE' : E' = entA kv (putA n v L))
    (hk : K (.raw undef) (hp.set x (.abs (MP E')))) : XOpN C (.mapUpdate t m k y) fr hp K := by
  subst hE hE'; exact XOpN.updateMP hT hK em ek ey hx n hn v hv hk
theorem den_pair {ρ : Rho} {a b : Int} {c : Value} (h : Den ρ (.agg [.i .u32 (.ex a), .i .u32 (.ex b)]) c) : c = pairV (a, b) := by
  cases h with
  | agg vs hc hl =>
    obtain ⟨c1, c2, rfl, g1, g2⟩ := hl.of_cons
    obtain ⟨c3, c4, rfl, g3, g4⟩ := g2.of_cons
    obtain ⟨d1, rfl, _, k1⟩ := g1.single rfl
    obtain ⟨d2, rfl, _, k2⟩ := g3.single rfl
    cases k1 with
    | i k1 => cases k2 with
      | i k2 => rw [g4.of_nil] at hc; rw [hc, k1, k2]; rfl
theorem den_i {ρ : Rho} {k : IntKind} {a : Int} {c : Value} (h : Den ρ (.i k (.ex a)) c) : c = .int k a := by
  cases h with | i h => exact h
theorem den_unit {ρ : Rho} {c : Value} (h : Den ρ (.agg []) c) : c = .agg #[] := by
  cases h with
  | agg vs hc hl => rw [hl.of_nil] at hc; exact hc
theorem fA_seen_some {x : Int × Int} : ∀ {l : List (Int × Int)} (i : Nat), x ∈ l → ∃ j, fA x (seenL l) i = some (j, .agg #[])
  | [], i, h => by simp at h
  | a :: r, i, h => by
    simp only [seenL, List.map_cons, fA]
    by_cases hx : a = x
    · exact ⟨i, by rw [if_pos hx]⟩
    · rw [if_neg hx]
      have : x ∈ r := by rcases List.mem_cons.1 h with h | h; exact absurd h.symm hx; exact h
      exact fA_seen_some (i + 1) this
/-- The heap while the pages are gone over. -/
noncomputable def hpA (n base pages taken root : Int) (sealed : Bool) (f : Int → Int) (V PH G P : List Int) (m cap : Nat) (F : Option (Nat × Nat) → Vex.Own → World → Prop) (e0 : S Int) (D1 D2 : List (Value × Value)) (wl : List Int) (rest : List Blk) : List Blk :=
  memB n f :: arB 0 base pages taken sealed :: spB 1 root :: .ro [.rows 4 (.ex m) (rngF V PH G P)] :: .abs F :: .cells 33 [.p 2 (.at 0)] :: .cells 34 [.i .i64 e0] :: .cells 38 [.p 0 (.at 0)] :: .abs (MP D1) :: .cells 113 [.map 8] :: .abs (MP D2) :: .cells 114 [.map 10] :: wanB wl :: .cells 22 [.slc 3 0 4 (.lit 0) (.ex m) (.ex cap)] :: .obj (.deferred (some [])) :: rest
noncomputable def recB (R : RecT) (st : LoopState) (pe : Option Code) : Blk := .av [.p 5 (.at 0), .p 6 (.at 0), .p 7 (.at 0), .p 9 (.at 0), .p 11 (.at 0), .p 12 (.at 0)] (R st pe)
noncomputable def rgB (a b c d : Int) : Blk := .cells 31 [.i .u32 (.ex a), .i .u32 (.ex b), .i .i64 (.ex c), .i .u8 (.ex d)]
theorem decK_cases (w : Int) : decK w = 0 ∨ decK w = 1 ∨ decK w = 2 := by
  unfold decK; split
  · simp
  · split
    · simp
    · split <;> simp
theorem fA_putA {α : Type} [DecidableEq α] {n : α} {v : Value} {L : List (α × Value)} : ∃ j, fA n (putA n v L) 0 = some (j, v) := by
  have key : ∀ (M : List (α × Value)) (i : Nat), (∃ j : Nat, M[j]? = some (n, v) ∧ ∀ k, k < j → ∀ x, M[k]? = some x → x.1 ≠ n) → ∃ j, fA n M i = some (j, v) := by
    intro M
    induction M with
    | nil => rintro i ⟨j, h, _⟩; simp at h
    | cons a r ih =>
      rintro i ⟨j, h1, h2⟩
      obtain ⟨a1, a2⟩ := a
      unfold fA
      by_cases ha : a1 = n
      · rw [if_pos ha]
        cases j with
        | zero => simp at h1; exact ⟨i, by rw [h1.2]⟩
        | succ j => exact absurd ha (h2 0 (by omega) _ rfl)
      · rw [if_neg ha]
        cases j with
        | zero => simp at h1; exact absurd h1.1 ha
        | succ j => exact ih (i + 1) ⟨j, by simpa using h1, fun k hk x hx => h2 (k + 1) (by omega) x (by simpa using hx)⟩
  have first : ∀ (M : List (α × Value)) (i j : Nat) (u : Value), fA n M i = some (j, u) → i ≤ j ∧ j - i < M.length ∧ ∀ k, k < j - i → ∀ x, M[k]? = some x → x.1 ≠ n := by
    intro M
    induction M with
    | nil => intro i j u h; simp [fA] at h
    | cons a r ih =>
      intro i j u h
      obtain ⟨a1, a2⟩ := a
      unfold fA at h
      split at h
      · cases h; exact ⟨Nat.le_refl _, by simp, fun k hk => by omega⟩
      · rename_i ha
        obtain ⟨h1, h2, h3⟩ := ih _ _ _ h
        refine ⟨by omega, by simp; omega, fun k hk x hx => ?_⟩
        cases k with
        | zero => simp at hx; subst hx; exact ha
        | succ k => exact h3 k (by omega) x (by simpa using hx)
  have none_ : ∀ (M : List (α × Value)) (i : Nat), fA n M i = none → ∀ x ∈ M, x.1 ≠ n := by
    intro M
    induction M with
    | nil => intro i _ x hx; simp at hx
    | cons a r ih =>
      intro i h x hx
      obtain ⟨a1, a2⟩ := a
      unfold fA at h
      split at h
      · cases h
      · rename_i ha
        rcases List.mem_cons.1 hx with rfl | hx
        · exact ha
        · exact ih _ h x hx
  unfold putA
  cases h : fA n L 0 with
  | none =>
    refine key _ 0 ⟨L.length, by simp, fun k hk x hx => ?_⟩
    rw [List.getElem?_append_left hk] at hx
    exact none_ L 0 h x (List.mem_of_getElem? hx)
  | some y =>
    obtain ⟨j, u⟩ := y
    obtain ⟨_, h2, h3⟩ := first L 0 j u h
    refine key _ 0 ⟨j, by rw [List.getElem?_set_self (by omega)], fun k hk x hx => ?_⟩
    rw [List.getElem?_set_ne (by omega)] at hx
    exact h3 k (by omega) x hx
theorem round1 {R : RecT} {y : Nat} (n base pages taken root : Int) (sealed : Bool) (f : Int → Int) (hn : 1 ≤ n ∧ n ≤ 4096) (hmo : MemOk f) (hr : 0 ≤ root ∧ root < 4294967296) (V PH G P : List Int) (m cap : Nat) (F : Option (Nat × Nat) → Vex.Own → World → Prop) (ps : PS) (first second e2 e3 : Int) (hf : 0 ≤ first ∧ first < 1024) (hs : 0 ≤ second ∧ second < 1024) (hwl : ps.wanted.length < 1048576)
    (vz phz gz pz : Int) (D1 D2 : List (Value × Value)) (hD1 : D1 = entA pairV (seenL ps.seen)) (hD2 : D2 = entA (Value.int .u32) ps.tabs) {K : Bool → SV → List Blk → Prop}
    (hok : ∀ ps' D1' D2', mStep n f root ps (first, second) = some ps' → D1' = entA pairV (seenL ps'.seen) → D2' = entA (Value.int .u32) ps'.tabs → K false (.b (.lit true)) (hpA n base pages taken root sealed f V PH G P m cap F (.ex 0) D1' D2' ps'.wanted [recB R .ready none, rgB vz phz gz pz, .gone, .gone]))
    (herr : ∀ D1' D2' wl, mStep n f root ps (first, second) = none → K false (.b (.lit false)) (hpA n base pages taken root sealed f V PH G P m cap F (.ex 71) D1' D2' wl [recB R .done (some .ret), rgB vz phz gz pz, .gone, .gone])) :
    Ok kit 184 19 bd1 false ⟨[(9, .p 19 (.at 0)), (36, .agg [.i .i64 (.lit 1), .i .u8 (.ex e2), .i .u32 (.ex e3)]), (35, .agg [.i .u32 (.ex first), .i .u32 (.ex second)]), (1000003, .tup [.raw (.int .u64 (Int.ofNat y))]), (2, .p 5 (.at 0)), (4, .p 6 (.at 0)), (5, .p 7 (.at 0)), (6, .p 9 (.at 0)), (7, .p 11 (.at 0)), (8, .p 12 (.at 0))],
      hpA n base pages taken root sealed f V PH G P m cap F (.ex 0) D1 D2 ps.wanted [recB R .busy none, rgB vz phz gz pz, .gone, .gone, .cells 119 [.i .u32 (.ex first), .i .u32 (.ex second)]]⟩
      (endRd R 15 fun q v hp' => ∃ q1 v1 hp1, LeOut2 19 q v hp' q1 v1 hp1 ∧ K q1 v1 hp1) := by
  obtain ⟨D3, hD3⟩ : ∃ x, x = entA pairV (putA (first, second) (.agg #[]) (seenL ps.seen)) := ⟨_, rfl⟩
  obtain ⟨w, hw⟩ : ∃ x, x = wW n f root first := ⟨_, rfl⟩
  obtain ⟨a1, ha1⟩ : ∃ x, x = wAt root first := ⟨_, rfl⟩
  obtain ⟨b1, hb1⟩ : ∃ x, x = wOk n root first := ⟨_, rfl⟩
  obtain ⟨k1, hk1⟩ : ∃ x, x = decK w := ⟨_, rfl⟩
  obtain ⟨p1, hp1⟩ : ∃ x, x = decP w := ⟨_, rfl⟩
  obtain ⟨f1, hf1⟩ : ∃ x, x = decF w := ⟨_, rfl⟩
  obtain ⟨er1, he1⟩ : ∃ x, x = decE w := ⟨_, rfl⟩
  obtain ⟨t1, ht1⟩ : ∃ x, f1 * 4096 = x := ⟨_, rfl⟩
  obtain ⟨a2, ha2⟩ : ∃ x, x = wAt t1 second := ⟨_, rfl⟩
  obtain ⟨w2, hw2⟩ : ∃ x, x = wW n f t1 second := ⟨_, rfl⟩
  obtain ⟨b2, hb2⟩ : ∃ x, x = wOk n t1 second := ⟨_, rfl⟩
  obtain ⟨bl, hbl⟩ : ∃ x, x = decide (f1 < n) := ⟨_, rfl⟩
  obtain ⟨bc, hbc⟩ : ∃ x, x = decide (first ∈ ps.wanted) := ⟨_, rfl⟩
  obtain ⟨D4, hD4⟩ : ∃ x, x = entA (Value.int .u32) (putA first (.int .u32 t1) ps.tabs) := ⟨_, rfl⟩
  have hwu : 0 ≤ w ∧ w < 4294967296 := by rw [hw]; exact wW_u hmo _ _ _
  have hfr : er1 = 0 → 0 ≤ f1 ∧ f1 ≤ 4095 := fun h => by rw [hf1]; exact decF_u hwu (by rw [← he1]; exact h)
  have hsh : er1 = 0 → shlI .u32 f1 12 = t1 := fun h => by rw [shl12 (hfr h), ← ht1]; show 4096 * f1 = _; omega
  have ht1u : er1 = 0 → 0 ≤ t1 ∧ t1 < 4294967296 := fun h => by have := hfr h; omega
  have hf1u : er1 = 0 → 0 ≤ f1 ∧ f1 < 4294967296 := fun h => by have := hfr h; omega
  have hms : (first, second) ∉ ps.seen → mStep n f root ps (first, second) = (if b1 = false ∨ er1 ≠ 0 ∨ k1 = 1 ∨ (k1 = 2 ∧ n ≤ f1) then none else if k1 = 0 then some ⟨ps.seen ++ [(first, second)], ps.tabs, if first ∈ ps.wanted then ps.wanted else ps.wanted ++ [first]⟩ else if w2 ≠ 0 then none else some ⟨ps.seen ++ [(first, second)], putA first (.int .u32 t1) ps.tabs, ps.wanted⟩) := by
    intro hsee
    rw [mStep, if_neg hsee]
    simp only [← hw, ← hb1, ← he1, ← hk1, ← hf1, ht1, ← hw2]
  have hs3 : (first, second) ∉ ps.seen → D3 = entA pairV (seenL (ps.seen ++ [(first, second)])) := by
    intro hsee
    rw [hD3, fA_none_putA ((fA_seen 0).2 hsee)]
    simp [seenL]
  obtain ⟨wl, hwl2⟩ : ∃ x, ps.wanted = x := ⟨_, rfl⟩
  obtain ⟨wn, hwn2⟩ : ∃ x, wl.length = x := ⟨_, rfl⟩
  have hwl3 : wn < 1048576 := by rw [← hwn2, ← hwl2]; exact hwl
  obtain ⟨wl3, hwl4⟩ : ∃ x, wl ++ [first] = x := ⟨_, rfl⟩
  refine Ok.unfold 12 rfl ?_
  rintro bs (⟨hwn, rfl⟩ | ⟨hwn, cw, hcw, hbs⟩)
  · skip
    refine kcode (I := []) trivial 3 ⟨[], 0⟩ (by kernel_rfl) ?_
    conv => cbv
    by_cases hsee : (first, second) ∈ ps.seen
    · obtain ⟨j, hj⟩ := fA_seen_some 0 hsee
      refine XOpN.x (lookupE hD1 mt113 kp119 rfl rfl rfl (first, second) (fun ρ c h => den_pair h) (.tup [.agg [], .b (.lit true)]) (fun ρ => by rw [hj]; exact .tup _ rfl (.cons _ _ rfl (.agg [] rfl (.nil rfl)) (.cons _ _ rfl (.b rfl) (.nil rfl)))) ?_)
      conv => cbv
      refine ⟨_, _, _, LeOut2.imp (HImp.fold (S := wanSh ps.wanted) 12 [] [.cells 89 [.nilslc]] (by decide) (by cbv) (.inl ⟨hwn, rfl⟩)) (LeOut.mk' (List.range 19) (by decide) rfl (by decide) (by cbv) ?_).two, herr D1 D2 ps.wanted (by rw [mStep, if_pos hsee])⟩
      conv => cbv
      exact ⟨⟨fun j _ => rngF_le _ _, trivial⟩, trivial⟩
    · refine XOpN.x (lookupE hD1 mt113 kp119 rfl rfl rfl (first, second) (fun ρ c h => den_pair h) (.tup [.agg [], .b (.lit false)]) (fun ρ => by rw [(fA_seen 0).2 hsee]; exact .tup _ rfl (.cons _ _ rfl (.agg [] rfl (.nil rfl)) (.cons _ _ rfl (.b rfl) (.nil rfl)))) ?_)
      conv => cbv
      refine XOpN.x (updateE hD1 mt113 kp119 rfl rfl rfl rfl (first, second) (fun ρ c h => den_pair h) (.agg #[]) (fun ρ c h => den_unit h) hD3 ?_)
      conv => cbv
      refine OkCall.by_spec (word_spec n f root first hn hr (by omega) ha1 hw hb1) [0] (by decide) (by cbv) (by cbv) ?_
      conv => cbv
      refine OkCall.by_spec (dec_spec w hwu hk1 hp1 hf1 he1) [] (by decide) (by cbv) trivial ?_
      conv => cbv
      refine Br.mk (fun h1 => ?_) (fun h1 => ?_)
      · have h1 : notB b1 = true := h1
        rw [notB_eq, Bool.not_eq_true'] at h1
        conv => cbv
        refine ⟨_, _, _, LeOut2.imp (HImp.fold (S := wanSh ps.wanted) 12 [] [.cells 89 [.nilslc]] (by decide) (by cbv) (.inl ⟨hwn, rfl⟩)) (LeOut.mk' (List.range 19) (by decide) rfl (by decide) (by cbv) ?_).two, herr D3 D2 ps.wanted (by rw [hms hsee]; rw [if_pos (.inl h1)])⟩
        conv => cbv
        exact ⟨⟨fun j _ => rngF_le _ _, trivial⟩, trivial⟩
      · have h1 : notB b1 = false := h1
        rw [notB_eq, Bool.not_eq_false'] at h1
        conv => cbv
        refine Br.mk (fun h2 => ?_) (fun h2 => ?_)
        · have h2 : er1 ≠ 0 := neI_t.1 h2
          conv => cbv
          refine ⟨_, _, _, LeOut2.imp (HImp.fold (S := wanSh ps.wanted) 12 [] [.cells 89 [.nilslc]] (by decide) (by cbv) (.inl ⟨hwn, rfl⟩)) (LeOut.mk' (List.range 19) (by decide) rfl (by decide) (by cbv) ?_).two, herr D3 D2 ps.wanted (by rw [hms hsee]; rw [if_pos (.inr (.inl h2))])⟩
          conv => cbv
          exact ⟨⟨fun j _ => rngF_le _ _, trivial⟩, trivial⟩
        · have h2 : er1 = 0 := neI_f.1 h2
          conv => cbv
          refine Br.mk (fun h3 => ?_) (fun h3 => ?_)
          · have h3 : k1 = 1 := eqI_t.1 h3
            conv => cbv
            refine ⟨_, _, _, LeOut2.imp (HImp.fold (S := wanSh ps.wanted) 12 [] [.cells 89 [.nilslc]] (by decide) (by cbv) (.inl ⟨hwn, rfl⟩)) (LeOut.mk' (List.range 19) (by decide) rfl (by decide) (by cbv) ?_).two, herr D3 D2 ps.wanted (by rw [hms hsee]; rw [if_pos (.inr (.inr (.inl h3)))])⟩
            conv => cbv
            exact ⟨⟨fun j _ => rngF_le _ _, trivial⟩, trivial⟩
          · have h3 : k1 ≠ 1 := eqI_f.1 h3
            conv => cbv
            refine Br.mk (fun h4 => ?_) (fun h4 => ?_)
            · have h4 : k1 = 2 := eqI_t.1 h4
              conv => cbv
              refine OkCall.by_spec (lies_spec n f f1 (hf1u h2) hbl) [0] (by decide) (by cbv) (by cbv) ?_
              conv => cbv
              refine Br.mk (fun h5 => ?_) (fun h5 => ?_)
              · have h5 : notB bl = true := h5
                rw [notB_eq, Bool.not_eq_true'] at h5
                have h6 : n ≤ f1 := by rw [h5] at hbl; have := of_decide_eq_false hbl.symm; omega
                conv => cbv
                refine ⟨_, _, _, LeOut2.imp (HImp.fold (S := wanSh ps.wanted) 12 [] [.cells 89 [.nilslc]] (by decide) (by cbv) (.inl ⟨hwn, rfl⟩)) (LeOut.mk' (List.range 19) (by decide) rfl (by decide) (by cbv) ?_).two, herr D3 D2 ps.wanted (by rw [hms hsee]; rw [if_pos (.inr (.inr (.inr ⟨h4, h6⟩)))])⟩
                conv => cbv
                exact ⟨⟨fun j _ => rngF_le _ _, trivial⟩, trivial⟩
              · have h5 : notB bl = false := h5
                rw [notB_eq, Bool.not_eq_false'] at h5
                have h6 : ¬ n ≤ f1 := by rw [h5] at hbl; have := of_decide_eq_true hbl.symm; omega
                have hcnd : ¬ (b1 = false ∨ er1 ≠ 0 ∨ k1 = 1 ∨ (k1 = 2 ∧ n ≤ f1)) := by
                  rintro (h | h | h | h)
                  · rw [h1] at h; cases h
                  · exact h h2
                  · exact h3 h
                  · exact h6 h.2
                conv => cbv
                refine Br.no (show eqI k1 0 = false from eqI_f.2 (by omega)) ?_
                conv => cbv
                refine XOpN.x (updateE hD2 mt114 ku27 rfl rfl rfl rfl first (fun ρ c h => den_i h) (.int .u32 t1) (fun ρ c h => by rw [← hsh h2]; exact den_i h) hD4 ?_)
                conv => cbv
                obtain ⟨jj, hjj⟩ := fA_putA (n := first) (v := Value.int .u32 t1) (L := ps.tabs)
                refine XOpN.x (lookupE hD4 mt114 ku27 rfl rfl rfl first (fun ρ c h => den_i h) (.i .u32 (.ex t1)) (fun ρ => by rw [hjj]; exact .i rfl) ?_)
                conv => cbv
                refine OkCall.by_spec (word_spec n f t1 second hn (ht1u h2) (by omega) ha2 hw2 hb2) [0] (by decide) (by cbv) (by cbv) ?_
                conv => cbv
                refine Br.mk (fun h7 => ?_) (fun h7 => ?_)
                · have h7 : w2 ≠ 0 := neI_t.1 h7
                  conv => cbv
                  refine ⟨_, _, _, LeOut2.imp (HImp.fold (S := wanSh ps.wanted) 12 [] [.cells 89 [.nilslc]] (by decide) (by cbv) (.inl ⟨hwn, rfl⟩)) (LeOut.mk' (List.range 19) (by decide) rfl (by decide) (by cbv) ?_).two, herr D3 D4 ps.wanted (by rw [hms hsee]; rw [if_neg hcnd, if_neg (by omega), if_pos h7])⟩
                  conv => cbv
                  exact ⟨⟨fun j _ => rngF_le _ _, trivial⟩, trivial⟩
                · have h7 : w2 = 0 := neI_f.1 h7
                  conv => cbv
                  refine ⟨_, _, _, LeOut2.imp (HImp.fold (S := wanSh ps.wanted) 12 [] [.cells 89 [.nilslc]] (by decide) (by cbv) (.inl ⟨hwn, rfl⟩)) (LeOut.mk' (List.range 19) (by decide) rfl (by decide) (by cbv) ?_).two, hok _ D3 D4 (by rw [hms hsee, if_neg hcnd, if_neg (by omega), if_neg (by simpa using h7)]) (hs3 hsee) hD4⟩
                  conv => cbv
                  exact ⟨⟨fun j _ => rngF_le _ _, trivial⟩, trivial⟩
            · have h4 : k1 ≠ 2 := eqI_f.1 h4
              have h0 : k1 = 0 := by rw [hk1]; rcases decK_cases w with h | h | h; exact h; exact absurd (hk1.trans h) h3; exact absurd (hk1.trans h) h4
              have hcnd : ¬ (b1 = false ∨ er1 ≠ 0 ∨ k1 = 1 ∨ (k1 = 2 ∧ n ≤ f1)) := by
                rintro (h | h | h | h)
                · rw [h1] at h; cases h
                · exact h h2
                · exact h3 h
                · exact h4 h.1
              conv => cbv
              refine Br.yes (show eqI k1 0 = true from eqI_t.2 h0) ?_
              conv => cbv
              refine OkCall.by_spec (contains_nil first) [] (by decide) (by cbv) trivial ?_
              conv => cbv
              refine ⟨by show apOk 1 4; rw [apOk_eq]; decide, AllN.mk fun cap1 hcap1 => ?_⟩
              conv => cbv
              refine ⟨_, _, _, LeOut2.imp (HImp.fold (S := wanSh [first]) 12 [26] [.cells 89 [.slc 1 0 1 (.lit 0) (.ex 1) (.ex cap1)], .cells 27 [.ints .u32 (.ex 1) [first], .junk 1 (.ex (cap1 - 1))]] (by decide) ?_ (.inr ⟨by simp, cap1, hcap1, rfl⟩)) (LeOut.mk' (List.range 19) (by decide) rfl (by decide) (by cbv) ?_).two, hok ⟨ps.seen ++ [(first, second)], ps.tabs, [first]⟩ D3 D2 (by rw [hms hsee, if_neg hcnd, if_pos h0, hwn]; simp) (hs3 hsee) hD2⟩
              · conv => cbv
                refine ⟨⟨?_, trivial⟩, trivial⟩
                show _ = subN cap1 1
                rw [subN_eq]; cases cap1 <;> rfl
              · conv => cbv
                exact ⟨⟨fun j _ => rngF_le _ _, trivial⟩, trivial⟩
  · obtain ⟨jw, hjw⟩ : ∃ x, cw - wn = x := ⟨_, rfl⟩
    rw [hwl2, hwn2] at hcw hbs
    rw [hjw] at hbs
    subst hbs
    refine kcode (I := []) trivial 3 ⟨[], 0⟩ (by kernel_rfl) ?_
    conv => cbv
    by_cases hsee : (first, second) ∈ ps.seen
    · obtain ⟨j, hj⟩ := fA_seen_some 0 hsee
      refine XOpN.x (lookupE hD1 mt113 kp119 rfl rfl rfl (first, second) (fun ρ c h => den_pair h) (.tup [.agg [], .b (.lit true)]) (fun ρ => by rw [hj]; exact .tup _ rfl (.cons _ _ rfl (.agg [] rfl (.nil rfl)) (.cons _ _ rfl (.b rfl) (.nil rfl)))) ?_)
      conv => cbv
      refine ⟨_, _, _, LeOut2.imp (HImp.fold (S := wanSh ps.wanted) 12 [20] [.cells 89 [.slc 1 0 1 (.lit 0) (.ex wn) (.ex cw)], .cells 27 [.ints .u32 (.ex wn) wl, .junk 1 (.ex jw)]] (by decide) (by cbv) (.inr ⟨hwn, cw, by rw [hwl2, hwn2]; exact hcw, by rw [hwl2, hwn2, hjw]⟩)) (LeOut.mk' (List.range 19) (by decide) rfl (by decide) (by cbv) ?_).two, herr D1 D2 ps.wanted (by rw [mStep, if_pos hsee])⟩
      conv => cbv
      exact ⟨⟨fun j _ => rngF_le _ _, trivial⟩, trivial⟩
    · refine XOpN.x (lookupE hD1 mt113 kp119 rfl rfl rfl (first, second) (fun ρ c h => den_pair h) (.tup [.agg [], .b (.lit false)]) (fun ρ => by rw [(fA_seen 0).2 hsee]; exact .tup _ rfl (.cons _ _ rfl (.agg [] rfl (.nil rfl)) (.cons _ _ rfl (.b rfl) (.nil rfl)))) ?_)
      conv => cbv
      refine XOpN.x (updateE hD1 mt113 kp119 rfl rfl rfl rfl (first, second) (fun ρ c h => den_pair h) (.agg #[]) (fun ρ c h => den_unit h) hD3 ?_)
      conv => cbv
      refine OkCall.by_spec (word_spec n f root first hn hr (by omega) ha1 hw hb1) [0] (by decide) (by cbv) (by cbv) ?_
      conv => cbv
      refine OkCall.by_spec (dec_spec w hwu hk1 hp1 hf1 he1) [] (by decide) (by cbv) trivial ?_
      conv => cbv
      refine Br.mk (fun h1 => ?_) (fun h1 => ?_)
      · have h1 : notB b1 = true := h1
        rw [notB_eq, Bool.not_eq_true'] at h1
        conv => cbv
        refine ⟨_, _, _, LeOut2.imp (HImp.fold (S := wanSh ps.wanted) 12 [20] [.cells 89 [.slc 1 0 1 (.lit 0) (.ex wn) (.ex cw)], .cells 27 [.ints .u32 (.ex wn) wl, .junk 1 (.ex jw)]] (by decide) (by cbv) (.inr ⟨hwn, cw, by rw [hwl2, hwn2]; exact hcw, by rw [hwl2, hwn2, hjw]⟩)) (LeOut.mk' (List.range 19) (by decide) rfl (by decide) (by cbv) ?_).two, herr D3 D2 ps.wanted (by rw [hms hsee]; rw [if_pos (.inl h1)])⟩
        conv => cbv
        exact ⟨⟨fun j _ => rngF_le _ _, trivial⟩, trivial⟩
      · have h1 : notB b1 = false := h1
        rw [notB_eq, Bool.not_eq_false'] at h1
        conv => cbv
        refine Br.mk (fun h2 => ?_) (fun h2 => ?_)
        · have h2 : er1 ≠ 0 := neI_t.1 h2
          conv => cbv
          refine ⟨_, _, _, LeOut2.imp (HImp.fold (S := wanSh ps.wanted) 12 [20] [.cells 89 [.slc 1 0 1 (.lit 0) (.ex wn) (.ex cw)], .cells 27 [.ints .u32 (.ex wn) wl, .junk 1 (.ex jw)]] (by decide) (by cbv) (.inr ⟨hwn, cw, by rw [hwl2, hwn2]; exact hcw, by rw [hwl2, hwn2, hjw]⟩)) (LeOut.mk' (List.range 19) (by decide) rfl (by decide) (by cbv) ?_).two, herr D3 D2 ps.wanted (by rw [hms hsee]; rw [if_pos (.inr (.inl h2))])⟩
          conv => cbv
          exact ⟨⟨fun j _ => rngF_le _ _, trivial⟩, trivial⟩
        · have h2 : er1 = 0 := neI_f.1 h2
          conv => cbv
          refine Br.mk (fun h3 => ?_) (fun h3 => ?_)
          · have h3 : k1 = 1 := eqI_t.1 h3
            conv => cbv
            refine ⟨_, _, _, LeOut2.imp (HImp.fold (S := wanSh ps.wanted) 12 [20] [.cells 89 [.slc 1 0 1 (.lit 0) (.ex wn) (.ex cw)], .cells 27 [.ints .u32 (.ex wn) wl, .junk 1 (.ex jw)]] (by decide) (by cbv) (.inr ⟨hwn, cw, by rw [hwl2, hwn2]; exact hcw, by rw [hwl2, hwn2, hjw]⟩)) (LeOut.mk' (List.range 19) (by decide) rfl (by decide) (by cbv) ?_).two, herr D3 D2 ps.wanted (by rw [hms hsee]; rw [if_pos (.inr (.inr (.inl h3)))])⟩
            conv => cbv
            exact ⟨⟨fun j _ => rngF_le _ _, trivial⟩, trivial⟩
          · have h3 : k1 ≠ 1 := eqI_f.1 h3
            conv => cbv
            refine Br.mk (fun h4 => ?_) (fun h4 => ?_)
            · have h4 : k1 = 2 := eqI_t.1 h4
              conv => cbv
              refine OkCall.by_spec (lies_spec n f f1 (hf1u h2) hbl) [0] (by decide) (by cbv) (by cbv) ?_
              conv => cbv
              refine Br.mk (fun h5 => ?_) (fun h5 => ?_)
              · have h5 : notB bl = true := h5
                rw [notB_eq, Bool.not_eq_true'] at h5
                have h6 : n ≤ f1 := by rw [h5] at hbl; have := of_decide_eq_false hbl.symm; omega
                conv => cbv
                refine ⟨_, _, _, LeOut2.imp (HImp.fold (S := wanSh ps.wanted) 12 [20] [.cells 89 [.slc 1 0 1 (.lit 0) (.ex wn) (.ex cw)], .cells 27 [.ints .u32 (.ex wn) wl, .junk 1 (.ex jw)]] (by decide) (by cbv) (.inr ⟨hwn, cw, by rw [hwl2, hwn2]; exact hcw, by rw [hwl2, hwn2, hjw]⟩)) (LeOut.mk' (List.range 19) (by decide) rfl (by decide) (by cbv) ?_).two, herr D3 D2 ps.wanted (by rw [hms hsee]; rw [if_pos (.inr (.inr (.inr ⟨h4, h6⟩)))])⟩
                conv => cbv
                exact ⟨⟨fun j _ => rngF_le _ _, trivial⟩, trivial⟩
              · have h5 : notB bl = false := h5
                rw [notB_eq, Bool.not_eq_false'] at h5
                have h6 : ¬ n ≤ f1 := by rw [h5] at hbl; have := of_decide_eq_true hbl.symm; omega
                have hcnd : ¬ (b1 = false ∨ er1 ≠ 0 ∨ k1 = 1 ∨ (k1 = 2 ∧ n ≤ f1)) := by
                  rintro (h | h | h | h)
                  · rw [h1] at h; cases h
                  · exact h h2
                  · exact h3 h
                  · exact h6 h.2
                conv => cbv
                refine Br.no (show eqI k1 0 = false from eqI_f.2 (by omega)) ?_
                conv => cbv
                refine XOpN.x (updateE hD2 mt114 ku27 rfl rfl rfl rfl first (fun ρ c h => den_i h) (.int .u32 t1) (fun ρ c h => by rw [← hsh h2]; exact den_i h) hD4 ?_)
                conv => cbv
                obtain ⟨jj, hjj⟩ := fA_putA (n := first) (v := Value.int .u32 t1) (L := ps.tabs)
                refine XOpN.x (lookupE hD4 mt114 ku27 rfl rfl rfl first (fun ρ c h => den_i h) (.i .u32 (.ex t1)) (fun ρ => by rw [hjj]; exact .i rfl) ?_)
                conv => cbv
                refine OkCall.by_spec (word_spec n f t1 second hn (ht1u h2) (by omega) ha2 hw2 hb2) [0] (by decide) (by cbv) (by cbv) ?_
                conv => cbv
                refine Br.mk (fun h7 => ?_) (fun h7 => ?_)
                · have h7 : w2 ≠ 0 := neI_t.1 h7
                  conv => cbv
                  refine ⟨_, _, _, LeOut2.imp (HImp.fold (S := wanSh ps.wanted) 12 [20] [.cells 89 [.slc 1 0 1 (.lit 0) (.ex wn) (.ex cw)], .cells 27 [.ints .u32 (.ex wn) wl, .junk 1 (.ex jw)]] (by decide) (by cbv) (.inr ⟨hwn, cw, by rw [hwl2, hwn2]; exact hcw, by rw [hwl2, hwn2, hjw]⟩)) (LeOut.mk' (List.range 19) (by decide) rfl (by decide) (by cbv) ?_).two, herr D3 D4 ps.wanted (by rw [hms hsee]; rw [if_neg hcnd, if_neg (by omega), if_pos h7])⟩
                  conv => cbv
                  exact ⟨⟨fun j _ => rngF_le _ _, trivial⟩, trivial⟩
                · have h7 : w2 = 0 := neI_f.1 h7
                  conv => cbv
                  refine ⟨_, _, _, LeOut2.imp (HImp.fold (S := wanSh ps.wanted) 12 [20] [.cells 89 [.slc 1 0 1 (.lit 0) (.ex wn) (.ex cw)], .cells 27 [.ints .u32 (.ex wn) wl, .junk 1 (.ex jw)]] (by decide) (by cbv) (.inr ⟨hwn, cw, by rw [hwl2, hwn2]; exact hcw, by rw [hwl2, hwn2, hjw]⟩)) (LeOut.mk' (List.range 19) (by decide) rfl (by decide) (by cbv) ?_).two, hok _ D3 D4 (by rw [hms hsee, if_neg hcnd, if_neg (by omega), if_neg (by simpa using h7)]) (hs3 hsee) hD4⟩
                  conv => cbv
                  exact ⟨⟨fun j _ => rngF_le _ _, trivial⟩, trivial⟩
            · have h4 : k1 ≠ 2 := eqI_f.1 h4
              have h0 : k1 = 0 := by rw [hk1]; rcases decK_cases w with h | h | h; exact h; exact absurd (hk1.trans h) h3; exact absurd (hk1.trans h) h4
              have hcnd : ¬ (b1 = false ∨ er1 ≠ 0 ∨ k1 = 1 ∨ (k1 = 2 ∧ n ≤ f1)) := by
                rintro (h | h | h | h)
                · rw [h1] at h; cases h
                · exact h h2
                · exact h3 h
                · exact h4 h.1
              conv => cbv
              refine Br.yes (show eqI k1 0 = true from eqI_t.2 h0) ?_
              conv => cbv
              refine OkCall.by_spec (contains_spec2 wl wn cw jw hwn2 (Nat.lt_trans hwl3 (by decide)) first (b := bc) (by rw [← hwl2]; exact hbc)) [20] (by decide) (by cbv) (by cbv) ?_
              conv => cbv
              refine Br.mk (fun h8 => ?_) (fun h8 => ?_)
              · have h8 : notB bc = true := h8
                rw [notB_eq, Bool.not_eq_true'] at h8
                have h9 : first ∉ ps.wanted := by rw [h8] at hbc; exact of_decide_eq_false hbc.symm
                conv => cbv
                refine ⟨by show eqN wn wn; rw [eqN_eq], by show eqN (addN wn jw) cw; rw [eqN_eq, addN_eq]; omega, by show apOk (addN wn 1) 4; rw [apOk_eq, addN_eq]; omega, AllN.mk fun cap1 hcap1 => ?_⟩
                have hcap1 : wn + 1 ≤ cap1 := by have h : addN wn 1 ≤ cap1 := hcap1; rw [addN_eq] at h; exact h
                conv => cbv
                refine ⟨_, _, _, LeOut2.imp (HImp.fold (S := wanSh wl3) 12 [27] [.cells 89 [.slc 1 0 1 (.lit 0) (.ex (wn + 1)) (.ex cap1)], .cells 27 [.ints .u32 (.ex (wn + 1)) wl3, .junk 1 (.ex (subN cap1 (addN wn 1)))]] (by decide) ?_ (.inr ⟨by rw [← hwl4]; simp, cap1, by rw [← hwl4]; simp [hwn2]; exact hcap1, by rw [← hwl4, subN_eq, addN_eq]; simp [hwn2]⟩)) (LeOut.mk' (List.range 19) (by decide) rfl (by decide) (by cbv) ?_).two, hok ⟨ps.seen ++ [(first, second)], ps.tabs, wl3⟩ D3 D2 (by rw [hms hsee, if_neg hcnd, if_pos h0, if_neg h9, hwl2, hwl4]) (hs3 hsee) hD2⟩
                · conv => cbv
                  have ea : addN wn 1 = wn + 1 := by rw [addN_eq]
                  refine ⟨⟨⟨ea.symm, trivial⟩, trivial⟩, ⟨⟨ea.symm, ?_⟩, trivial⟩, trivial⟩
                  show wl3 = appI wl [first]
                  rw [appI_eq, hwl4]
                · conv => cbv
                  exact ⟨⟨fun j _ => rngF_le _ _, trivial⟩, trivial⟩
              · have h8 : notB bc = false := h8
                rw [notB_eq, Bool.not_eq_false'] at h8
                have h9 : first ∈ ps.wanted := by rw [h8] at hbc; exact of_decide_eq_true hbc.symm
                conv => cbv
                refine ⟨_, _, _, LeOut2.imp (HImp.fold (S := wanSh ps.wanted) 12 [20] [.cells 89 [.slc 1 0 1 (.lit 0) (.ex wn) (.ex cw)], .cells 27 [.ints .u32 (.ex wn) wl, .junk 1 (.ex jw)]] (by decide) (by cbv) (.inr ⟨hwn, cw, by rw [hwl2, hwn2]; exact hcw, by rw [hwl2, hwn2, hjw]⟩)) (LeOut.mk' (List.range 19) (by decide) rfl (by decide) (by cbv) ?_).two, hok ⟨ps.seen ++ [(first, second)], ps.tabs, ps.wanted⟩ D3 D2 (by rw [hms hsee, if_neg hcnd, if_pos h0, if_pos h9]) (hs3 hsee) hD2⟩
                conv => cbv
                exact ⟨⟨fun j _ => rngF_le _ _, trivial⟩, trivial⟩
end Go.Proofs.Ytnefllaeleihcaa
end

/-
  tables.Map: from the first pass on: what is there, the second pass.
-/
section
namespace Go.Proofs.Ytnefllaeleihcaa
open Go Go.Vex
set_option maxRecDepth 20000
set_option maxHeartbeats 4000000
noncomputable def O17 : Opt := ⟨[1000024, 2031000, 3031006, 4031011], 0⟩
noncomputable def O17b : Opt := ⟨[2031000, 3031006, 4031011], 0⟩
noncomputable def O17c : Opt := ⟨[1000028, 2031000, 3031006, 4031011], 0⟩
noncomputable def I17 : FnT := [(17, fi Try.f17 O17), (48, fi Try.f48 ⟨[], 0⟩), (49, fi Try.f49 ⟨[], 0⟩), (54, fi Try.f54 ⟨[], 0⟩), (35, fi Try.f35 ⟨[], 0⟩)]
theorem fo17 : FnOk kit 17 (fi Try.f17 O17) := foO O17 Try.func17 (by kernel_rfl) (by decide +kernel) (by kernel_rfl)
theorem I17ok : FnsOk kit I17 := ⟨fo17, fo48 _, fo49 _, fo54 _, fo35 _, trivial⟩
noncomputable def c24 : Code := (codeAt 24 (Try.f17.body.getD .skip)).getD .skip
theorem nil_ints (T : TypeId) (k : IntKind) : ∀ ρ w, BSat ρ none ⟨[], []⟩ w (.cells T [.ints k (.ex 0) [], .junk 1 (.ex 0)]) := fun ρ w =>
  ⟨[], .cons [] [] rfl (.ints rfl rfl) (.cons [] [] rfl (.junk (by simp) (by simp)) (.nil rfl)), .inl ⟨rfl, rfl, rfl⟩⟩
/-- The arena's next page becomes a table. -/
structure MS where
  f : Int → Int
  taken : Int
  tabs : List (Int × Value)
def tkStep (n base root : Int) (s : MS) (x : Int) : MS :=
  ⟨layF n (zeroF s.f (base + 4096 * s.taken)) root x 2 0 ((base + 4096 * s.taken) / 4096), s.taken + 1, putA x (.int .u32 (base + 4096 * s.taken)) s.tabs⟩
def tabOf (tabs : List (Int × Value)) (x : Int) : Int := match fA x tabs 0 with
  | some (_, .int _ z) => z
  | _ => 0
abbrev PgE := (Int × Int) × (Int × Int)
def lyStep (n : Int) (tabs : List (Int × Value)) (f : Int → Int) (x : PgE) : Int → Int := layF n f (tabOf tabs x.1.1) x.1.2 1 x.2.1 x.2.2
def pgE (L : Rgs) (i j : Nat) : PgE := (pgOf L i j, (L.P.getD i 0, L.PH.getD i 0 / 4096 + j))
def rgE (L : Rgs) (i k : Nat) : List PgE := (List.range k).map (pgE L i)
def allE (L : Rgs) (i : Nat) : List PgE := (List.range i).flatMap fun a => rgE L a (L.G.getD a 0).toNat
def TabsOk (tabs : List (Int × Value)) : Prop := ∀ x ∈ tabs, ∃ z, x.2 = .int .u32 z ∧ 0 ≤ z ∧ z < 4294967296
theorem TabsOk.put {tabs : List (Int × Value)} (h : TabsOk tabs) (x z : Int) (hz : 0 ≤ z ∧ z < 4294967296) : TabsOk (putA x (.int .u32 z) tabs) := by
  intro y hy
  unfold putA at hy
  split at hy
  · rcases List.mem_or_eq_of_mem_set hy with hy | rfl
    · exact h y hy
    · exact ⟨z, rfl, hz⟩
  · rcases List.mem_append.1 hy with hy | hy
    · exact h y hy
    · simp only [List.mem_singleton] at hy; subst hy; exact ⟨z, rfl, hz⟩
theorem TabsOk.of {tabs : List (Int × Value)} (h : TabsOk tabs) (x : Int) : (∃ j, fA x tabs 0 = some (j, .int .u32 (tabOf tabs x))) ∨ (fA x tabs 0 = none ∧ tabOf tabs x = 0) := by
  cases hf : fA x tabs 0 with
  | none => exact .inr ⟨rfl, by rw [tabOf, hf]⟩
  | some y =>
    obtain ⟨j, v⟩ := y
    obtain ⟨_, h2⟩ := fA_some hf
    obtain ⟨z, h3, _⟩ := h _ (List.mem_of_getElem? h2)
    simp only at h3
    subst h3
    exact .inl ⟨j, by rw [tabOf, hf]⟩
theorem TabsOk.u {tabs : List (Int × Value)} (h : TabsOk tabs) (x : Int) : 0 ≤ tabOf tabs x ∧ tabOf tabs x < 4294967296 := by
  cases hf : fA x tabs 0 with
  | none => rw [tabOf, hf]; decide
  | some y =>
    obtain ⟨j, v⟩ := y
    obtain ⟨_, h2⟩ := fA_some hf
    obtain ⟨z, h3, h4⟩ := h _ (List.mem_of_getElem? h2)
    simp only at h3
    subst h3
    rw [tabOf, hf]; exact h4
theorem tk_taken (n base root : Int) : ∀ (l : List Int) (s : MS), (l.foldl (tkStep n base root) s).taken = s.taken + l.length
  | [], s => by simp
  | x :: r, s => by simp only [List.foldl_cons, tk_taken n base root r, tkStep, List.length_cons]; omega
noncomputable def c28 : Code := (codeAt 28 (Try.f17.body.getD .skip)).getD .skip
noncomputable def c34 : Code := (codeAt 34 (Try.f17.body.getD .skip)).getD .skip
noncomputable def O17d : Opt := ⟨[1000034, 2031000, 3031006, 4031011], 0⟩
theorem lookupER {C : Kit} {fr : Fr} {hp : List Blk} {K : SV → Prop} {t : Nat} {m k : Operand} {x : Nat} {kS : SV} {E : List (Value × Value)} {L : List (Int × Value)} (hE : E = entA (Value.int .u32) L) (hT : MapT C t 27 27 (.int .u32) (.int .u32 0)) (hK : KeyT C 27 (Value.int .u32)) (hL : TabsOk L)
    (em : ev fr hp m = some (.map x)) (ek : ev fr hp k = some kS) (hx : hp[x]? = some (.abs (MP E))) (n : Int) (hn : ∀ ρ c, Den ρ kS c → c = .int .u32 n) {z : Int} (hz : z = tabOf L n) (hk : K (.i .u32 (.ex z))) : XOpR C (.lookup t m k false) fr hp K := by
  refine XOpR.lookupMP hE hT hK em ek hx n hn (.i .u32 (.ex z)) (fun ρ => ?_) hk
  rcases hL.of n with ⟨j, hj⟩ | ⟨h0, h1⟩
  · rw [hj, hz]; exact .i rfl
  · rw [h0, hz, h1]; exact .i rfl
theorem lookupEN {C : Kit} {fr : Fr} {hp : List Blk} {K : SV → List Blk → Prop} {t : Nat} {m k : Operand} {x : Nat} {kS : SV} {E : List (Value × Value)} {L : List (Int × Value)} (hE : E = entA (Value.int .u32) L) (hT : MapT C t 27 27 (.int .u32) (.int .u32 0)) (hK : KeyT C 27 (Value.int .u32)) (hL : TabsOk L)
    (em : ev fr hp m = some (.map x)) (ek : ev fr hp k = some kS) (hx : hp[x]? = some (.abs (MP E))) (n : Int) (hn : ∀ ρ c, Den ρ kS c → c = .int .u32 n) {z : Int} (hz : z = tabOf L n) (hk : K (.i .u32 (.ex z)) hp) : XOpN C (.lookup t m k false) fr hp K := by
  refine lookupE hE hT hK em ek hx n hn (.i .u32 (.ex z)) (fun ρ => ?_) hk
  rcases hL.of n with ⟨j, hj⟩ | ⟨h0, h1⟩
  · rw [hj, hz]; exact .i rfl
  · rw [h0, hz, h1]; exact .i rfl
theorem tabOf_put (x z : Int) (L : List (Int × Value)) : tabOf (putA x (.int .u32 z) L) x = z := by
  obtain ⟨j, hj⟩ := fA_putA (n := x) (v := Value.int .u32 z) (L := L)
  rw [tabOf, hj]
theorem map_loop (n base pages taken root : Int) (sealed : Bool) (f : Int → Int) (hn : 1 ≤ n ∧ n ≤ 4096) (hr : 0 ≤ root ∧ root < 4294967296) (ha : ArOk n base pages taken) (V PH G P : List Int) (m cap : Nat) (F : Option (Nat × Nat) → Vex.Own → World → Prop) (tabs : List (Int × Value)) (D1 D2 : List (Value × Value)) (hD2 : D2 = entA (Value.int .u32) tabs) (hT : TabsOk tabs) (wl : List Int) (wn cw jw : Nat) (hwn : wl.length = wn) (hwl2 : wn < 1048576) (hlf : wn ≤ pages - taken) (hse : wn = 0 ∨ sealed = false)
    {Q : Bool → Ex → St → Prop} (hcont : ∀ D3 s, s = wl.foldl (tkStep n base root) ⟨f, taken, tabs⟩ → D3 = entA (Value.int .u32) s.tabs → TabsOk s.tabs → ∀ f1 tk1, f1 = s.f → tk1 = s.taken →
      Ok kit 184 5 c34 false ⟨[(1000003, .tup [.p 14 (.at 0)]), (1, .slc 3 0 4 (.lit 0) (.ex m) (.ex cap)), (2, .p 5 (.at 0)), (4, .p 6 (.at 0)), (5, .p 7 (.at 0)), (6, .p 9 (.at 0)), (7, .p 11 (.at 0)), (8, .p 12 (.at 0))],
      [memB n f1, arB 0 base pages tk1 sealed, spB 1 root, .ro [.rows 4 (.ex m) (rngF V PH G P)], .abs F, .cells 33 [.p 2 (.at 0)], .cells 34 [.i .i64 (.ex 0)], .cells 38 [.p 0 (.at 0)], .abs (MP D1), .cells 113 [.map 8], .abs (MP D3), .cells 114 [.map 10], .cells 89 [.slc 16 0 1 (.lit 0) (.ex wn) (.ex cw)], .cells 22 [.slc 3 0 4 (.lit 0) (.ex m) (.ex cap)], .obj (.deferred (some [])), .gone, .cells 27 [.ints .u32 (.ex wn) wl, .junk 1 (.ex jw)]]⟩ Q) :
    Ok kit 184 5 c28 false ⟨[(1000003, .tup [.p 14 (.at 0)]), (1, .slc 3 0 4 (.lit 0) (.ex m) (.ex cap)), (2, .p 5 (.at 0)), (4, .p 6 (.at 0)), (5, .p 7 (.at 0)), (6, .p 9 (.at 0)), (7, .p 11 (.at 0)), (8, .p 12 (.at 0))],
      [memB n f, arB 0 base pages taken sealed, spB 1 root, .ro [.rows 4 (.ex m) (rngF V PH G P)], .abs F, .cells 33 [.p 2 (.at 0)], .cells 34 [.i .i64 (.ex 0)], .cells 38 [.p 0 (.at 0)], .abs (MP D1), .cells 113 [.map 8], .abs (MP D2), .cells 114 [.map 10], .cells 89 [.slc 16 0 1 (.lit 0) (.ex wn) (.ex cw)], .cells 22 [.slc 3 0 4 (.lit 0) (.ex m) (.ex cap)], .obj (.deferred (some [])), .gone, .cells 27 [.ints .u32 (.ex wn) wl, .junk 1 (.ex jw)]]⟩ Q := by
  obtain ⟨h1, h2, h3, h4, h5⟩ := ha
  refine kcode I17ok 6 O17d (by kernel_rfl) ?_
  conv => cbv
  refine byInv I17ok 6 O17d (fun a : Int × MS × (Int → Int) × Int × List (Value × Value) => ⟨[(144, .i .i64 (.ex a.1)), (143, .i .i64 (.ex (ofN wn))), (142, .slc 16 0 1 (.lit 0) (.ex wn) (.ex cw)), (1000003, .tup [.p 14 (.at 0)]), (1, .slc 3 0 4 (.lit 0) (.ex m) (.ex cap)), (2, .p 5 (.at 0)), (4, .p 6 (.at 0)), (5, .p 7 (.at 0)), (6, .p 9 (.at 0)), (7, .p 11 (.at 0)), (8, .p 12 (.at 0))],
      [memB n a.2.2.1, arB 0 base pages a.2.2.2.1 sealed, spB 1 root, .ro [.rows 4 (.ex m) (rngF V PH G P)], .abs F, .cells 33 [.p 2 (.at 0)], .cells 34 [.i .i64 (.ex 0)], .cells 38 [.p 0 (.at 0)], .abs (MP D1), .cells 113 [.map 8], .abs (MP a.2.2.2.2), .cells 114 [.map 10], .cells 89 [.slc 16 0 1 (.lit 0) (.ex wn) (.ex cw)], .cells 22 [.slc 3 0 4 (.lit 0) (.ex m) (.ex cap)], .obj (.deferred (some [])), .gone, .cells 27 [.ints .u32 (.ex wn) wl, .junk 1 (.ex jw)]]⟩)
    (fun a => (wn - a.1).toNat) (fun a => 0 ≤ a.1 ∧ a.1 ≤ wn ∧ a.2.1 = (wl.take a.1.toNat).foldl (tkStep n base root) ⟨f, taken, tabs⟩ ∧ a.2.2.1 = a.2.1.f ∧ a.2.2.2.1 = a.2.1.taken ∧ a.2.2.2.2 = entA (Value.int .u32) a.2.1.tabs ∧ TabsOk a.2.1.tabs) false (0, ⟨f, taken, tabs⟩, f, taken, D2) (by kernel_rfl) ⟨by omega, by omega, rfl, rfl, rfl, hD2, hT⟩
    (LeSt.mk' (List.range 17) (by decide) (by rfl) (by decide) (by cbv) ?_) ?_
  · conv => cbv
    exact ⟨⟨fun j _ => rngF_le _ _, trivial⟩, trivial⟩
  rintro ⟨z, s, fz, tz, D⟩ ⟨hz0, hz1, hs, hfz, htz, hD, hTz⟩
  simp only at hz0 hz1 hs hfz htz hD hTz
  have htk : tz = taken + z := by
    rw [htz, hs, tk_taken, List.length_take]; simp only; omega
  obtain ⟨xf, hxf⟩ : ∃ x, x = wl.getD z.toNat 0 := ⟨_, rfl⟩
  obtain ⟨z1, hz1'⟩ : ∃ x, x = z + 1 := ⟨_, rfl⟩
  obtain ⟨at_, hat⟩ : ∃ x, x = base + 4096 * tz := ⟨_, rfl⟩
  obtain ⟨tk, htk'⟩ : ∃ x, x = tz + 1 := ⟨_, rfl⟩
  obtain ⟨fr, hfr⟩ : ∃ x, x = at_ / 4096 := ⟨_, rfl⟩
  obtain ⟨s1, hs1⟩ : ∃ y, y = tkStep n base root s xf := ⟨_, rfl⟩
  obtain ⟨D', hD'⟩ : ∃ x, x = entA (Value.int .u32) (putA xf (.int .u32 at_) s.tabs) := ⟨_, rfl⟩
  obtain ⟨g, hg⟩ : ∃ x, x = layF n (zeroF fz at_) root xf 2 0 fr := ⟨_, rfl⟩
  conv => cbv
  refine Br.mk (fun hc => ?_) (fun hc => ?_)
  · have hc : z < (wn : Int) := by have h : z < ofN wn := ltI_t.1 hc; rw [ofN_eq] at h; exact h
    conv => cbv
    refine ⟨inR.mk hz0 hc, nLt.mk (by simp only [leafs]; omega), ?_⟩
    have hsf : sealed = false := by rcases hse with h | h; omega; exact h
    refine ECall.by_spec (take_ok n base pages tz fz ⟨h1, h2, h3, by omega, h5⟩ (by omega) hat htk') [0, 1] (by decide) (by cbv) (by cbv) ?_ ?_
    · conv => cbv
      exact ⟨⟨hsf.symm, trivial⟩, trivial⟩
    conv => cbv
    refine XOpE.updateMP hD mt114 ku27 rfl rfl rfl rfl (by intro y hy; simp only [List.mem_singleton] at hy; subst hy; exact ⟨by decide, _, _, rfl⟩) xf (fun ρ c h => by rw [hxf, ← toN_eq, ← gi_eq]; exact den_i h) (.int .u32 at_) (fun ρ c h => den_i h) hD' ?_
    conv => cbv
    have hTz' : TabsOk (putA xf (.int .u32 at_) s.tabs) := hTz.put xf at_ (by omega)
    refine lookupER hD' mt114 ku27 hTz' rfl rfl rfl xf (fun ρ c h => by rw [hxf, ← toN_eq, ← gi_eq]; exact den_i h) (tabOf_put xf at_ s.tabs).symm ?_
    conv => cbv
    refine OkCall.by_spec (lay_spec n (zeroF fz at_) root xf 2 0 fr hn (by omega) (by omega) hg) [0] (by decide) ?_ (by cbv) ?_
    · conv => cbv
      refine ⟨?_, ⟨?_, trivial⟩, trivial⟩
      · show xf = gi wl (toN z)
        rw [hxf, toN_eq, gi_eq]
      · have := shrI_u32 at_ 12 (by decide)
        rw [show ((12 : Nat) : Int) = 12 from rfl] at this
        show fr = shrI .u32 at_ 12
        rw [this, hfr]; rfl
    conv => cbv
    have hg2 : g = (s1).f := by rw [hg, hfr, hat, hfz, htz, hs1]; simp only [tkStep]
    have hD2' : D' = entA (Value.int .u32) (s1).tabs := by rw [hD', hat, htz, hs1]; simp only [tkStep]
    refine ⟨(z1, s1, g, tk, D'), ⟨⟨by show 0 ≤ z1; omega, by show z1 ≤ (wn : Int); omega, ?_, ?_, ?_, ?_, ?_⟩, by show ((wn : Int) - z1).toNat < ((wn : Int) - z).toNat; omega⟩, _, (HImp.refl _).ext, LeSt.mk' (List.range 17) (by decide) (by rfl) (by decide) ?_ ?_⟩
    · show s1 = (wl.take z1.toNat).foldl (tkStep n base root) ⟨f, taken, tabs⟩
      have ez : z1.toNat = z.toNat + 1 := by omega
      have el : z.toNat < wl.length := by omega
      rw [ez, List.take_succ_eq_append_getElem el, List.foldl_append, ← hs]
      have : xf = wl[z.toNat] := by rw [hxf, List.getD_eq_getElem?_getD, List.getElem?_eq_getElem el]; rfl
      rw [hs1, this]; rfl
    · exact hg2
    · show tk = (s1).taken
      rw [htk', htz, hs1]; rfl
    · exact hD2'
    · show TabsOk (s1).tabs
      rw [hat, htz] at hTz'; rw [hs1]; exact hTz'
    · conv => cbv
      refine ⟨?_, trivial⟩
      show z1 = addI .i64 z 1
      rw [addI_eq, IntWalk.i64_in _ (by omega), hz1']
    · conv => cbv
      exact ⟨⟨hsf, trivial⟩, ⟨fun j _ => rngF_le _ _, trivial⟩, trivial⟩
  · have hc : (wn : Int) ≤ z := by have h : ofN wn ≤ z := ltI_f.1 hc; rw [ofN_eq] at h; exact h
    conv => cbv
    have hzz : z.toNat = wl.length := by omega
    rw [hzz, List.take_length] at hs
    refine Ok.weak (LeSt.mk' (List.range 17) (by decide) (by rfl) (by decide) (by cbv) ?_) (hcont D s hs hD hTz fz tz hfz htz)
    conv => cbv
    exact ⟨⟨fun j _ => rngF_le _ _, trivial⟩, trivial⟩
noncomputable def I79b : FnT := [(79, fi Try.f79 ⟨[2006007, 3006006, 3006009, 4006020], 0⟩)]
theorem I79bok : FnsOk kit I79b := ⟨foO _ Try.func79 (by kernel_rfl) (by decide +kernel) (by kernel_rfl), trivial⟩
theorem map_lay (n base pages root : Int) (sealed : Bool) (f1 : Int → Int) (tk1 : Int) (hn : 1 ≤ n ∧ n ≤ 4096) (V PH G P : List Int) (m cap : Nat) (hL : RgsOk ⟨V, PH, G, P⟩ m) (hgood : ∀ j, j < m → mayB (V.getD j 0) (PH.getD j 0) (G.getD j 0) (P.getD j 0) = true) (F : Option (Nat × Nat) → Vex.Own → World → Prop) (tabs : List (Int × Value)) (D1 D3 : List (Value × Value)) (hD3 : D3 = entA (Value.int .u32) tabs) (hT : TabsOk tabs) (wl : List Int) (wn cw jw : Nat)
    {f' : Int → Int} (hf' : f' = (allE ⟨V, PH, G, P⟩ m).foldl (lyStep n tabs) f1) :
    Ok kit 184 5 c34 false ⟨[(1000003, .tup [.p 14 (.at 0)]), (1, .slc 3 0 4 (.lit 0) (.ex m) (.ex cap)), (2, .p 5 (.at 0)), (4, .p 6 (.at 0)), (5, .p 7 (.at 0)), (6, .p 9 (.at 0)), (7, .p 11 (.at 0)), (8, .p 12 (.at 0))],
      [memB n f1, arB 0 base pages tk1 sealed, spB 1 root, .ro [.rows 4 (.ex m) (rngF V PH G P)], .abs F, .cells 33 [.p 2 (.at 0)], .cells 34 [.i .i64 (.ex 0)], .cells 38 [.p 0 (.at 0)], .abs (MP D1), .cells 113 [.map 8], .abs (MP D3), .cells 114 [.map 10], .cells 89 [.slc 16 0 1 (.lit 0) (.ex wn) (.ex cw)], .cells 22 [.slc 3 0 4 (.lit 0) (.ex m) (.ex cap)], .obj (.deferred (some [])), .gone, .cells 27 [.ints .u32 (.ex wn) wl, .junk 1 (.ex jw)]]⟩
      (endS tab (fi Try.f17 O17).res fun q v hp' => LeOut2 5 q v hp' false (.i .i64 (.ex 0)) [memB n f', arB 0 base pages tk1 sealed, spB 1 root, .ro [.rows 4 (.ex m) (rngF V PH G P)], .abs F]) := by
  refine kcode I17ok 6 O17b (by kernel_rfl) ?_
  conv => cbv
  refine Ok.rangeFunc [5, 7] rfl rfl rfl fun y R hR => ?_
  conv => cbv
  refine into I79bok 6 ?_
  conv => cbv
  refine byInv I79bok 6 ⟨[2006007, 3006006, 3006009, 4006020], 0⟩ (fun a : Int × (Int → Int) => ⟨[(8, .i .i64 (.ex a.1)), (7, .i .i64 (.ex (ofN m))), (6, .slc 3 0 4 (.lit 0) (.ex m) (.ex cap)), (0, .fn (.yield y) [] [])],
    [memB n a.2, arB 0 base pages tk1 sealed, spB 1 root, .ro [.rows 4 (.ex m) (rngF V PH G P)], .abs F, .cells 33 [.p 2 (.at 0)], .cells 34 [.i .i64 (.ex 0)], .cells 38 [.p 0 (.at 0)], .abs (MP D1), .cells 113 [.map 8], .abs (MP D3), .cells 114 [.map 10], .cells 89 [.slc 16 0 1 (.lit 0) (.ex wn) (.ex cw)], .cells 22 [.slc 3 0 4 (.lit 0) (.ex m) (.ex cap)], .obj (.deferred (some [])), .gone, .cells 27 [.ints .u32 (.ex wn) wl, .junk 1 (.ex jw)], .cells 22 [.slc 3 0 4 (.lit 0) (.ex m) (.ex cap)], .obj (.deferred (some [])), .av [.p 7 (.at 0), .p 11 (.at 0)] (R .ready none)]⟩)
    (fun a => (m - a.1).toNat) (fun a => 0 ≤ a.1 ∧ a.1 ≤ m ∧ a.2 = (allE ⟨V, PH, G, P⟩ a.1.toNat).foldl (lyStep n tabs) f1) false (0, f1) (by kernel_rfl) ⟨by omega, by omega, rfl⟩
    (LeSt.mk' (List.range 20) (by decide) (by rfl) (by decide) (by cbv) ?_) ?_
  · conv => cbv
    exact ⟨⟨fun j _ => rngF_le _ _, trivial⟩, trivial⟩
  rintro ⟨z, fz⟩ ⟨hz0, hz1, hfz⟩
  simp only at hz0 hz1 hfz
  obtain ⟨k, hk⟩ : ∃ x : Nat, z.toNat = x := ⟨_, rfl⟩
  obtain ⟨vz, hvz⟩ : ∃ x, x = V.getD k 0 := ⟨_, rfl⟩
  obtain ⟨phz, hphz⟩ : ∃ x, x = PH.getD k 0 := ⟨_, rfl⟩
  obtain ⟨gz, hgz⟩ : ∃ x, x = G.getD k 0 := ⟨_, rfl⟩
  obtain ⟨pz, hpz⟩ : ∃ x, x = P.getD k 0 := ⟨_, rfl⟩
  obtain ⟨z1, hz1e⟩ : ∃ x, x = z + 1 := ⟨_, rfl⟩
  have hvu : 0 ≤ vz ∧ vz < 4294967296 := by rw [hvz]; exact hL.v k
  have hphu : 0 ≤ phz ∧ phz < 4294967296 := by rw [hphz]; exact hL.ph k
  have hpu : 0 ≤ pz ∧ pz < 256 := by rw [hpz]; exact hL.p k
  conv => cbv
  refine Br.mk (fun hc => ?_) (fun hc => ?_)
  · have hc : z < (m : Int) := by have h : z < ofN m := ltI_t.1 hc; rw [ofN_eq] at h; exact h
    have hgood := hgood k (by omega)
    rw [← hvz, ← hphz, ← hgz, ← hpz] at hgood
    have hgd := of_decide_eq_true hgood
    conv => cbv
    refine ⟨inR.mk hz0 hc, nLt.mk (by simp only [leafs]; omega), ?_⟩
    refine byInv I79bok 6 ⟨[2006007, 3006006, 3006009, 4006020], 0⟩ (fun a : Int × (Int → Int) => ⟨[(15, .i .u32 (.ex a.1)), (14, .i .u32 (.ex gz)), (4, .p 20 (.at 0)), (8, .i .i64 (.ex z)), (7, .i .i64 (.ex (ofN m))), (6, .slc 3 0 4 (.lit 0) (.ex m) (.ex cap)), (0, .fn (.yield y) [] [])],
      [memB n a.2, arB 0 base pages tk1 sealed, spB 1 root, .ro [.rows 4 (.ex m) (rngF V PH G P)], .abs F, .cells 33 [.p 2 (.at 0)], .cells 34 [.i .i64 (.ex 0)], .cells 38 [.p 0 (.at 0)], .abs (MP D1), .cells 113 [.map 8], .abs (MP D3), .cells 114 [.map 10], .cells 89 [.slc 16 0 1 (.lit 0) (.ex wn) (.ex cw)], .cells 22 [.slc 3 0 4 (.lit 0) (.ex m) (.ex cap)], .obj (.deferred (some [])), .gone, .cells 27 [.ints .u32 (.ex wn) wl, .junk 1 (.ex jw)], .cells 22 [.slc 3 0 4 (.lit 0) (.ex m) (.ex cap)], .obj (.deferred (some [])), .av [.p 7 (.at 0), .p 11 (.at 0)] (R .ready none), .cells 31 [.i .u32 (.ex vz), .i .u32 (.ex phz), .i .i64 (.ex gz), .i .u8 (.ex pz)]]⟩)
      (fun a => (gz - a.1).toNat) (fun a => 0 ≤ a.1 ∧ a.1 ≤ gz ∧ a.2 = (allE ⟨V, PH, G, P⟩ k ++ rgE ⟨V, PH, G, P⟩ k a.1.toNat).foldl (lyStep n tabs) f1) false (0, fz) (by kernel_rfl) ⟨by omega, by omega, by rw [← hk]; simpa [rgE] using hfz⟩
      (LeSt.mk' (List.range 21) (by decide) (by rfl) (by decide) ?_ ?_) ?_
    · conv => cbv
      refine ⟨?_, trivial⟩
      show gz = convI .u32 (gi G (toN z))
      rw [convI_eq, wrap_u32, gi_eq, toN_eq, hk, ← hgz]; omega
    · conv => cbv
      refine ⟨⟨fun j _ => rngF_le _ _, trivial⟩, ⟨?_, ?_, ?_, ?_, trivial⟩, trivial⟩
      · show vz = gi V (toN z); rw [gi_eq, toN_eq, hk, hvz]
      · show phz = gi PH (toN z); rw [gi_eq, toN_eq, hk, hphz]
      · show gz = gi G (toN z); rw [gi_eq, toN_eq, hk, hgz]
      · show pz = gi P (toN z); rw [gi_eq, toN_eq, hk, hpz]
    rintro ⟨j, fj⟩ ⟨hj0, hj1, hfj⟩
    simp only at hj0 hj1 hfj
    obtain ⟨pg, hpg⟩ : ∃ x, x = vz / 4096 + j := ⟨_, rfl⟩
    obtain ⟨first, hfst⟩ : ∃ x, x = pg / 1024 := ⟨_, rfl⟩
    obtain ⟨second, hsec⟩ : ∃ x, x = pg % 1024 := ⟨_, rfl⟩
    obtain ⟨fr, hfr⟩ : ∃ x, x = phz / 4096 + j := ⟨_, rfl⟩
    obtain ⟨j1, hj1e⟩ : ∃ x, x = j + 1 := ⟨_, rfl⟩
    obtain ⟨tb, htb⟩ : ∃ x, x = tabOf tabs first := ⟨_, rfl⟩
    obtain ⟨g, hg⟩ : ∃ x, x = layF n fj tb second 1 pz fr := ⟨_, rfl⟩
    have hstep : g = (allE ⟨V, PH, G, P⟩ k ++ rgE ⟨V, PH, G, P⟩ k j1.toNat).foldl (lyStep n tabs) f1 := by
      have ej : j1.toNat = j.toNat + 1 := by omega
      rw [ej, rgE, List.range_succ, List.map_append, ← List.append_assoc, List.foldl_append]
      rw [rgE] at hfj
      rw [← hfj]
      have ep : pgE ⟨V, PH, G, P⟩ k j.toNat = ((first, second), (pz, fr)) := by
        simp only [pgE, pgOf]
        rw [← hvz, ← hphz, ← hpz, hfst, hsec, hpg, hfr]
        have : ((j.toNat : Nat) : Int) = j := by omega
        rw [this]
      simp only [List.map_cons, List.map_nil, List.foldl_cons, List.foldl_nil, ep, lyStep, ← htb, hg]
    conv => cbv
    refine Br.mk (fun hd => ?_) (fun hd => ?_)
    · have hd : j < gz := ltI_t.1 hd
      have hsh : addI .u32 (shrI .u32 vz 12) j = pg := by
        have := shrI_u32 vz 12 (by decide)
        rw [show ((12 : Nat) : Int) = 12 from rfl] at this
        rw [this, addI_eq, wrap_u32, hpg]
        show (vz / 4096 + j) % _ = _
        omega
      conv => cbv
      refine ECall.by_spec (place_spec pg (by omega) hfst hsec) [] (by decide) (by cbv) ?_ trivial ?_
      · conv => cbv
        exact ⟨hsh.symm, trivial⟩
      conv => cbv
      refine ECall.by_spec (pageOf_spec vz phz gz pz j hphu (by omega) hfr) [] (by decide) (by cbv) (by cbv) trivial ?_
      conv => cbv
      refine YCall.out2 ?_
      refine YCall.of hR 19 rfl rfl rfl (kcode (I := []) trivial 3 ⟨[], 0⟩ (by kernel_rfl) ?_)
      conv => cbv
      refine kcode (I := []) trivial 3 ⟨[], 0⟩ (by kernel_rfl) ?_
      conv => cbv
      refine XOpN.x (lookupEN hD3 mt114 ku27 hT rfl rfl rfl first (fun ρ c h => den_i h) htb ?_)
      conv => cbv
      refine OkCall.by_spec (lay_spec n fj tb second 1 pz fr hn hpu (by omega) hg) [0] (by decide) (by cbv) (by cbv) ?_
      conv => cbv
      refine ⟨false, _, _, (LeOut.mk' (List.range 23) (by decide) rfl (by decide) (v' := .b (.lit true)) (by cbv) (hp' := [memB n g, arB 0 base pages tk1 sealed, spB 1 root, .ro [.rows 4 (.ex m) (rngF V PH G P)], .abs F, .cells 33 [.p 2 (.at 0)], .cells 34 [.i .i64 (.ex 0)], .cells 38 [.p 0 (.at 0)], .abs (MP D1), .cells 113 [.map 8], .abs (MP D3), .cells 114 [.map 10], .cells 89 [.slc 16 0 1 (.lit 0) (.ex wn) (.ex cw)], .cells 22 [.slc 3 0 4 (.lit 0) (.ex m) (.ex cap)], .obj (.deferred (some [])), .gone, .cells 27 [.ints .u32 (.ex wn) wl, .junk 1 (.ex jw)], .cells 22 [.slc 3 0 4 (.lit 0) (.ex m) (.ex cap)], .obj (.deferred (some [])), .av [.p 7 (.at 0), .p 11 (.at 0)] (R .ready none), .cells 31 [.i .u32 (.ex vz), .i .u32 (.ex phz), .i .i64 (.ex gz), .i .u8 (.ex pz)], .gone, .gone]) ?_).two, ?_⟩
      · conv => cbv
        exact ⟨⟨fun j _ => rngF_le _ _, trivial⟩, trivial⟩
      · conv => cbv
        refine ⟨(j1, g), ⟨⟨by show 0 ≤ j1; omega, by show j1 ≤ gz; omega, ?_⟩, by show (gz - j1).toNat < (gz - j).toNat; omega⟩, _, (HImp.refl _).ext, LeSt.mk' (List.range 21) (by decide) (by rfl) (by decide) ?_ ?_⟩
        · exact hstep
        · conv => cbv
          refine ⟨?_, trivial⟩
          show j1 = addI .u32 j 1
          rw [addI_eq, wrap_u32, hj1e]; omega
        · conv => cbv
          exact ⟨⟨fun j _ => rngF_le _ _, trivial⟩, trivial⟩
    · have hd : gz ≤ j := ltI_f.1 hd
      have hend : fj = (allE ⟨V, PH, G, P⟩ z1.toNat).foldl (lyStep n tabs) f1 := by
        have ez : z1.toNat = k + 1 := by omega
        have ej : j.toNat = (G.getD k 0).toNat := by rw [← hgz]; omega
        rw [ez, allE, List.range_succ, List.flatMap_append]
        rw [hfj, ej]
        simp [allE]
      conv => cbv
      refine ⟨(z1, fj), ⟨⟨by show 0 ≤ z1; omega, by show z1 ≤ (m : Int); omega, hend⟩, by show ((m : Int) - z1).toNat < ((m : Int) - z).toNat; omega⟩, _, (HImp.refl _).ext, LeSt.mk' (List.range 20) (by decide) (by rfl) (by decide) ?_ ?_⟩
      · conv => cbv
        refine ⟨?_, trivial⟩
        show z1 = addI .i64 z 1
        rw [addI_eq, IntWalk.i64_in _ (by have := hL.m; omega), hz1e]
      · conv => cbv
        exact ⟨⟨fun j _ => rngF_le _ _, trivial⟩, trivial⟩
  · have hc : (m : Int) ≤ z := by have h : ofN m ≤ z := ltI_f.1 hc; rw [ofN_eq] at h; exact h
    have hzm : z.toNat = m := by omega
    rw [hzm, ← hf'] at hfz
    subst hfz
    conv => cbv
    refine ⟨.normal, ?_⟩
    conv => cbv
    refine (LeOut.mk' (List.range 5) (by decide) rfl (by decide) (by cbv) ?_).two
    conv => cbv
    exact ⟨⟨fun j _ => rngF_le _ _, trivial⟩, trivial⟩

theorem map_tail (n base pages taken root : Int) (sealed : Bool) (f : Int → Int) (hn : 1 ≤ n ∧ n ≤ 4096) (hr : 0 ≤ root ∧ root < 4294967296) (ha : ArOk n base pages taken) (V PH G P : List Int) (m cap : Nat) (hL : RgsOk ⟨V, PH, G, P⟩ m) (hgood : ∀ j, j < m → mayB (V.getD j 0) (PH.getD j 0) (G.getD j 0) (P.getD j 0) = true) (F : Option (Nat × Nat) → Vex.Own → World → Prop) (ps : PS) (D1 D2 : List (Value × Value)) (hD2 : D2 = entA (Value.int .u32) ps.tabs) (hT : TabsOk ps.tabs) (wl : List Int) (hwl : ps.wanted = wl) (wn : Nat) (hwn : wl.length = wn) (hwl2 : wl.length < 1048576)
    {e : Int} {f' : Int → Int} {tk' : Int} (hres : (e, f', tk') = if wn ≠ 0 ∧ sealed = true then (73, f, taken) else if pages - taken < wn then (72, f, taken) else
      let s := wl.foldl (tkStep n base root) ⟨f, taken, ps.tabs⟩
      (0, (allE ⟨V, PH, G, P⟩ m).foldl (lyStep n s.tabs) s.f, s.taken)) :
    Ok kit 184 5 c24 false ⟨[(1000003, .tup [.p 14 (.at 0)]), (1, .slc 3 0 4 (.lit 0) (.ex m) (.ex cap)), (2, .p 5 (.at 0)), (4, .p 6 (.at 0)), (5, .p 7 (.at 0)), (6, .p 9 (.at 0)), (7, .p 11 (.at 0)), (8, .p 12 (.at 0))],
      hpA n base pages taken root sealed f V PH G P m cap F (.ex 0) D1 D2 wl [.gone]⟩
      (endS tab (fi Try.f17 O17).res fun q v hp' => LeOut2 5 q v hp' false (.i .i64 (.ex e)) [memB n f', arB 0 base pages tk' sealed, spB 1 root, .ro [.rows 4 (.ex m) (rngF V PH G P)], .abs F]) := by
  obtain ⟨h1, h2, h3, h4, h5⟩ := ha
  refine Ok.unfold 12 rfl ?_
  suffices hmain : ∀ cw, wn ≤ cw → ∀ jw, cw - wn = jw → Ok kit 184 5 c24 false ⟨[(1000003, .tup [.p 14 (.at 0)]), (1, .slc 3 0 4 (.lit 0) (.ex m) (.ex cap)), (2, .p 5 (.at 0)), (4, .p 6 (.at 0)), (5, .p 7 (.at 0)), (6, .p 9 (.at 0)), (7, .p 11 (.at 0)), (8, .p 12 (.at 0))],
      [memB n f, arB 0 base pages taken sealed, spB 1 root, .ro [.rows 4 (.ex m) (rngF V PH G P)], .abs F, .cells 33 [.p 2 (.at 0)], .cells 34 [.i .i64 (.ex 0)], .cells 38 [.p 0 (.at 0)], .abs (MP D1), .cells 113 [.map 8], .abs (MP D2), .cells 114 [.map 10], .cells 89 [.slc 16 0 1 (.lit 0) (.ex wn) (.ex cw)], .cells 22 [.slc 3 0 4 (.lit 0) (.ex m) (.ex cap)], .obj (.deferred (some [])), .gone, .cells 27 [.ints .u32 (.ex wn) wl, .junk 1 (.ex jw)]]⟩
      (endS tab (fi Try.f17 O17).res fun q v hp' => LeOut2 5 q v hp' false (.i .i64 (.ex e)) [memB n f', arB 0 base pages tk' sealed, spB 1 root, .ro [.rows 4 (.ex m) (rngF V PH G P)], .abs F]) by
    rintro bs (⟨hw, rfl⟩ | ⟨hw, cw, hcw, rfl⟩)
    · subst hw
      simp only [List.length_nil] at hwn
      subst hwn
      refine Ok.ext (HExt.nilFill (hp := unf (hpA n base pages taken root sealed f V PH G P m cap F (.ex 0) D1 D2 [] [.gone]) 12 [.cells 89 [.nilslc]]) 12 0 0 1 (.cells 27 [.ints .u32 (.ex 0) [], .junk 1 (.ex 0)]) rfl rfl (nil_ints 27 .u32)) ?_
      refine Ok.weak (LeSt.mk' (List.range 17) (by decide) rfl (by decide) (by cbv) ?_) (hmain 0 (Nat.le_refl _) 0 rfl)
      conv => cbv
      exact ⟨⟨fun j _ => rngF_le _ _, trivial⟩, trivial⟩
    · rw [hwn] at hcw
      obtain ⟨jw, hjw⟩ : ∃ x, cw - wn = x := ⟨_, rfl⟩
      refine Ok.weak (LeSt.mk' (List.range 17) (by decide) rfl (by decide) (by cbv) ?_) (hmain cw hcw jw hjw)
      rw [hwn, hjw]
      conv => cbv
      exact ⟨⟨fun j _ => rngF_le _ _, trivial⟩, trivial⟩
  intro cw hcw jw hjw
  obtain ⟨lf, hlf⟩ : ∃ x, pages - taken = x := ⟨_, rfl⟩
  have hlf2 : lf = subI .i64 pages taken := by rw [subI_eq, IntWalk.i64_in _ (by omega), hlf]
  have hfin : ∀ {e2 : Int}, (e, f', tk') = (e2, f, taken) → e2 = e ∧ f' = f ∧ tk' = taken := fun h => by
    simp only [Prod.mk.injEq] at h; exact ⟨h.1.symm, h.2.1, h.2.2⟩
  have hgo := fun (hlf3 : (wn : Int) ≤ pages - taken) (hse3 : wn = 0 ∨ sealed = false) (hr3 : (e, f', tk') = (let s := wl.foldl (tkStep n base root) ⟨f, taken, ps.tabs⟩
      (0, (allE ⟨V, PH, G, P⟩ m).foldl (lyStep n s.tabs) s.f, s.taken))) =>
    map_loop n base pages taken root sealed f hn hr ⟨h1, h2, h3, h4, h5⟩ V PH G P m cap F ps.tabs D1 D2 hD2 hT wl wn cw jw hwn (by omega) hlf3 hse3 (Q := endS tab (fi Try.f17 O17).res fun q v hp' => LeOut2 5 q v hp' false (.i .i64 (.ex e)) [memB n f', arB 0 base pages tk' sealed, spB 1 root, .ro [.rows 4 (.ex m) (rngF V PH G P)], .abs F])
      (fun D3 s hs hD3 hTs f1 tk1 hf1 htk1 => by
        simp only [Prod.mk.injEq] at hr3
        obtain ⟨he, hf3, htk3⟩ := hr3
        rw [← hs] at hf3 htk3
        subst he
        rw [← htk1] at htk3
        subst htk3
        exact map_lay n base pages root sealed f1 tk' hn V PH G P m cap hL hgood F s.tabs D1 D3 hD3 hTs wl wn cw jw (by rw [hf3, ← hf1]))
  refine kcode I17ok 6 O17c (by kernel_rfl) ?_
  conv => cbv
  refine Br.mk (fun hc => ?_) (fun hc => ?_)
  · have hw0 : (0 : Int) < ofN wn := ltI_t.1 hc
    rw [ofN_eq] at hw0
    conv => cbv
    refine Br.mk (fun hse => ?_) (fun hse => ?_)
    · rw [if_pos ⟨by omega, hse⟩] at hres
      obtain ⟨rfl, rfl, rfl⟩ := hfin hres
      conv => cbv
      refine (LeOut.mk' (List.range 5) (by decide) rfl (by decide) ?_ ?_).two
      · conv => cbv
        trivial
      · conv => cbv
        exact ⟨⟨fun j _ => rngF_le _ _, trivial⟩, trivial⟩
    · have hse : sealed = false := hse
      rw [if_neg (by rw [hse]; simp)] at hres
      conv => cbv
      refine QCall.of_call (.i .i64 (.ex lf)) rfl (into I17ok 6 ?_) ?_
      · conv => cbv
        exact hlf2
      conv => cbv
      refine Br.mk (fun hd => ?_) (fun hd => ?_)
      · have hd : lf < ofN wn := ltI_t.1 hd
        rw [ofN_eq] at hd
        rw [if_pos (by omega)] at hres
        obtain ⟨rfl, rfl, rfl⟩ := hfin hres
        conv => cbv
        refine (LeOut.mk' (List.range 5) (by decide) rfl (by decide) ?_ ?_).two
        · conv => cbv
          trivial
        · conv => cbv
          exact ⟨⟨fun j _ => rngF_le _ _, trivial⟩, trivial⟩
      · have hd : ofN wn ≤ lf := ltI_f.1 hd
        rw [ofN_eq] at hd
        rw [if_neg (by omega)] at hres
        have hgo := hgo (by omega) (.inr hse) hres
        conv => cbv
        refine Ok.weak (LeSt.mk' (List.range 17) (by decide) rfl (by decide) (by cbv) ?_) hgo
        conv => cbv
        exact ⟨⟨fun j _ => rngF_le _ _, trivial⟩, trivial⟩
  · have hw0 : ofN wn ≤ (0 : Int) := ltI_f.1 hc
    rw [ofN_eq] at hw0
    rw [if_neg (by rintro ⟨h, _⟩; omega), if_neg (by omega)] at hres
    conv => cbv
    refine QCall.of_call (.i .i64 (.ex lf)) rfl (into I17ok 6 ?_) ?_
    · conv => cbv
      exact hlf2
    conv => cbv
    refine Br.no (show ltI lf (ofN wn) = false from ltI_f.2 (by rw [ofN_eq]; omega)) ?_
    have hgo := hgo (by omega) (.inl (by omega)) hres
    conv => cbv
    refine Ok.weak (LeSt.mk' (List.range 17) (by decide) rfl (by decide) (by cbv) ?_) hgo
    conv => cbv
    exact ⟨⟨fun j _ => rngF_le _ _, trivial⟩, trivial⟩
end Go.Proofs.Ytnefllaeleihcaa
end

/-
  tables.Map: all of it.
-/
section
namespace Go.Proofs.Ytnefllaeleihcaa
open Go Go.Vex
set_option maxRecDepth 20000
set_option maxHeartbeats 4000000
theorem nodup_lt : ∀ (n : Nat) (l : List Int), l.Nodup → (∀ x ∈ l, 0 ≤ x ∧ x < n) → l.length ≤ n
  | 0, l, _, h => by
    cases l with
    | nil => simp
    | cons a r => have := h a (by simp); omega
  | n + 1, l, hd, h => by
    have := nodup_lt n (l.erase (n : Int)) (hd.erase _) (fun x hx => by
      have hx := hd.mem_erase_iff.1 hx
      have := h x hx.2
      omega)
    by_cases hm : (n : Int) ∈ l
    · rw [List.length_erase_of_mem hm] at this; omega
    · rw [List.erase_of_not_mem hm] at this; omega
/-- What holds of the first pass. -/
structure PsOk (s : PS) : Prop where
  nd : s.wanted.Nodup
  bd : ∀ x ∈ s.wanted, 0 ≤ x ∧ x < 1024
  tb : TabsOk s.tabs
theorem PsOk.len {s : PS} (h : PsOk s) : s.wanted.length < 1048576 := by
  have := nodup_lt 1024 s.wanted h.nd h.bd
  omega
theorem PsOk.step {n root : Int} {f : Int → Int} (hm : MemOk f) {s s' : PS} {x : Int × Int} (h : PsOk s) (hx : 0 ≤ x.1 ∧ x.1 < 1024) (hs : mStep n f root s x = some s') : PsOk s' := by
  unfold mStep at hs
  split at hs
  · cases hs
  simp only at hs
  split at hs
  · cases hs
  rename_i hw
  split at hs
  · cases hs
    refine ⟨?_, ?_, h.tb⟩
    · split
      · exact h.nd
      · rename_i hn
        rw [List.nodup_append]
        refine ⟨h.nd, by simp, fun a ha b hb => ?_⟩
        simp only [List.mem_singleton] at hb
        subst hb; rintro rfl; exact hn ha
    · intro y hy
      split at hy
      · exact h.bd y hy
      · rcases List.mem_append.1 hy with hy | hy
        · exact h.bd y hy
        · simp only [List.mem_singleton] at hy; subst hy; exact hx
  · split at hs
    · cases hs
    · cases hs
      refine ⟨h.nd, h.bd, h.tb.put _ _ ?_⟩
      have := decF_u (wW_u hm n root x.1) (by
        by_cases he : decE (wW n f root x.1) = 0
        · exact he
        · exact absurd (.inr (.inl he)) hw)
      omega
theorem PsOk.fold {n root : Int} {f : Int → Int} (hm : MemOk f) : ∀ (l : List (Int × Int)) (s s' : PS), PsOk s → (∀ x ∈ l, 0 ≤ x.1 ∧ x.1 < 1024) → l.foldlM (mStep n f root) s = some s' → PsOk s'
  | [], s, s', h, _, hs => by simp at hs; subst hs; exact h
  | x :: r, s, s', h, hx, hs => by
    simp only [List.foldlM_cons, Option.bind_eq_bind] at hs
    cases h1 : mStep n f root s x with
    | none => rw [h1] at hs; cases hs
    | some s1 => rw [h1] at hs; exact PsOk.fold hm r s1 s' (h.step hm (hx x (by simp)) h1) (fun y hy => hx y (List.mem_cons_of_mem _ hy)) hs
theorem PsOk.zero : PsOk ⟨[], [], []⟩ := ⟨by simp, by simp, by intro x hx; simp at hx⟩
theorem pgs_bd {L : Rgs} {m : Nat} (hL : RgsOk L m) (hgood : ∀ j, j < m → mayB (L.V.getD j 0) (L.PH.getD j 0) (L.G.getD j 0) (L.P.getD j 0) = true) {i k : Nat} (hi : i < m) (hk : (k : Int) ≤ L.G.getD i 0) : ∀ x ∈ pgsOf L i k, 0 ≤ x.1 ∧ x.1 < 1024 := by
  intro x hx
  simp only [pgsOf, List.mem_map, List.mem_range] at hx
  obtain ⟨j, hj, rfl⟩ := hx
  have hv := hL.v i
  have hg := of_decide_eq_true (hgood i hi)
  simp only [pgOf]
  omega
theorem allPgs_bd {L : Rgs} {m : Nat} (hL : RgsOk L m) (hgood : ∀ j, j < m → mayB (L.V.getD j 0) (L.PH.getD j 0) (L.G.getD j 0) (L.P.getD j 0) = true) {i : Nat} (hi : i ≤ m) : ∀ x ∈ allPgs L i, 0 ≤ x.1 ∧ x.1 < 1024 := by
  intro x hx
  simp only [allPgs, List.mem_flatMap, List.mem_range] at hx
  obtain ⟨a, ha, hx⟩ := hx
  have hg := of_decide_eq_true (hgood a (by omega))
  exact pgs_bd hL hgood (by omega) (by omega) x hx
theorem allPgs_split (L : Rgs) {i m j : Nat} (hi : i < m) (hj : (j : Int) < L.G.getD i 0) : ∃ l2, allPgs L m = (allPgs L i ++ pgsOf L i j) ++ (pgOf L i j :: l2) := by
  have h1 : ∀ (a b : Nat), List.range (a + b) = List.range a ++ (List.range b).map (a + ·) := fun a b => by
    rw [List.range_eq_range', List.range_eq_range', List.range_eq_range', ← List.range'_append_1, List.map_add_range']
    simp
  obtain ⟨d, rfl⟩ : ∃ d, m = i + (d + 1) := ⟨m - i - 1, by omega⟩
  obtain ⟨c, hc⟩ : ∃ c, (L.G.getD i 0).toNat = j + (c + 1) := ⟨(L.G.getD i 0).toNat - j - 1, by omega⟩
  refine ⟨((List.range c).map (fun x => pgOf L i (j + (x + 1)))) ++ ((List.range d).map (fun x => i + (x + 1))).flatMap fun a => pgsOf L a (L.G.getD a 0).toNat, ?_⟩
  have h2 : (List.range (d + 1)).map (i + ·) = i :: (List.range d).map (fun x => i + (x + 1)) := by
    rw [List.range_succ_eq_map]; simp [List.map_map, Function.comp_def]
  have h3 : (List.range (c + 1)).map (j + ·) = j :: (List.range c).map (fun x => j + (x + 1)) := by
    rw [List.range_succ_eq_map]; simp [List.map_map, Function.comp_def]
  have h4 : pgsOf L i (j + (c + 1)) = pgsOf L i j ++ (pgOf L i j :: (List.range c).map (fun x => pgOf L i (j + (x + 1)))) := by
    simp only [pgsOf]
    rw [h1, List.map_append, h3]; simp [List.map_map, Function.comp_def]
  rw [allPgs, h1, List.flatMap_append, h2, List.flatMap_cons, hc, h4]
  simp [allPgs]
/-- Map: the error, the memory, how many pages are taken. -/
def mapP (n base pages taken root : Int) (sealed : Bool) (f : Int → Int) (L : Rgs) (m : Nat) : Int × (Int → Int) × Int :=
  if (List.range m).any (badR L) = true then (70, f, taken) else
  match (allPgs L m).foldlM (mStep n f root) ⟨[], [], []⟩ with
  | none => (71, f, taken)
  | some ps => if ps.wanted.length ≠ 0 ∧ sealed = true then (73, f, taken) else if pages - taken < ps.wanted.length then (72, f, taken) else
      let s := ps.wanted.foldl (tkStep n base root) ⟨f, taken, ps.tabs⟩
      (0, (allE L m).foldl (lyStep n s.tabs) s.f, s.taken)
noncomputable def rfAs : List Code → Code
  | .rangeFunc _ _ a _ :: _ => a
  | _ => .skip
noncomputable def as1 : Code := rfAs (rfs (Try.f17.body.getD .skip))
theorem map_pass1 {R : RecT} {y : Nat} (hR : RecIs R y 184 [2, 4, 5, 6, 7, 8] #[35, 36] as1 bd1) (n base pages taken root : Int) (sealed : Bool) (f : Int → Int) (V PH G P : List Int) (m cap : Nat) (hL : RgsOk ⟨V, PH, G, P⟩ m) (hn : 1 ≤ n ∧ n ≤ 4096) (hmo : MemOk f) (hr : 0 ≤ root ∧ root < 4294967296) (F : Option (Nat × Nat) → Vex.Own → World → Prop)
    (hgood0 : ∀ j, j < m → mayB (V.getD j 0) (PH.getD j 0) (G.getD j 0) (P.getD j 0) = true) (E1 E2 : List (Value × Value)) (hE1 : E1 = entA pairV (seenL [])) (hE2 : E2 = entA (Value.int .u32) []) {K : Bool → SV → List Blk → Prop}
    (hok : ∀ ps D1 D2, (allPgs ⟨V, PH, G, P⟩ m).foldlM (mStep n f root) ⟨[], [], []⟩ = some ps → PsOk ps → D1 = entA pairV (seenL ps.seen) → D2 = entA (Value.int .u32) ps.tabs → K false (.tup []) [memB n f, arB 0 base pages taken sealed, spB 1 root, .ro [.rows 4 (.ex m) (rngF V PH G P)], .abs F, .cells 33 [.p 2 (.at 0)], .cells 34 [.i .i64 (.ex 0)], .cells 38 [.p 0 (.at 0)], .abs (MP D1), .cells 113 [.map 8], .abs (MP D2), .cells 114 [.map 10], wanB ps.wanted, .cells 22 [.slc 3 0 4 (.lit 0) (.ex m) (.ex cap)], .obj (.deferred (some [])), .av [.p 5 (.at 0), .p 6 (.at 0), .p 7 (.at 0), .p 9 (.at 0), .p 11 (.at 0), .p 12 (.at 0)] (R .ready none)])
    (herr' : ∀ D1 D2 wl, (allPgs ⟨V, PH, G, P⟩ m).foldlM (mStep n f root) ⟨[], [], []⟩ = none → ∀ rg, K false (.tup []) [memB n f, arB 0 base pages taken sealed, spB 1 root, .ro [.rows 4 (.ex m) (rngF V PH G P)], .abs F, .cells 33 [.p 2 (.at 0)], .cells 34 [.i .i64 (.ex 71)], .cells 38 [.p 0 (.at 0)], .abs (MP D1), .cells 113 [.map 8], .abs (MP D2), .cells 114 [.map 10], wanB wl, .cells 22 [.slc 3 0 4 (.lit 0) (.ex m) (.ex cap)], .obj (.deferred (some [])), .av [.p 5 (.at 0), .p 6 (.at 0), .p 7 (.at 0), .p 9 (.at 0), .p 11 (.at 0), .p 12 (.at 0)] (R .done (some .ret)), rg, .gone, .gone]) :
    OkCall kit 79 [.fn (.yield y) [] [], .p 13 (.at 0)] [memB n f, arB 0 base pages taken sealed, spB 1 root, .ro [.rows 4 (.ex m) (rngF V PH G P)], .abs F, .cells 33 [.p 2 (.at 0)], .cells 34 [.i .i64 (.ex 0)], .cells 38 [.p 0 (.at 0)], .abs (MP E1), .cells 113 [.map 8], .abs (MP E2), .cells 114 [.map 10], wanB [], .cells 22 [.slc 3 0 4 (.lit 0) (.ex m) (.ex cap)], .obj (.deferred (some [])), .av [.p 5 (.at 0), .p 6 (.at 0), .p 7 (.at 0), .p 9 (.at 0), .p 11 (.at 0), .p 12 (.at 0)] (R .ready none)] K := by
  conv => cbv
  refine into I79ok 6 ?_
  conv => cbv
  refine byInv I79ok 6 ⟨[2006007, 3006006, 3006009, 4006016], 0⟩ (fun a : Int × PS × List (Value × Value) × List (Value × Value) => ⟨[(8, .i .i64 (.ex a.1)), (7, .i .i64 (.ex (ofN m))), (6, .slc 3 0 4 (.lit 0) (.ex m) (.ex cap)), (0, .fn (.yield y) [] [])],
    [memB n f, arB 0 base pages taken sealed, spB 1 root, .ro [.rows 4 (.ex m) (rngF V PH G P)], .abs F, .cells 33 [.p 2 (.at 0)], .cells 34 [.i .i64 (.ex 0)], .cells 38 [.p 0 (.at 0)], .abs (MP a.2.2.1), .cells 113 [.map 8], .abs (MP a.2.2.2), .cells 114 [.map 10], wanB a.2.1.wanted, .cells 22 [.slc 3 0 4 (.lit 0) (.ex m) (.ex cap)],
      .obj (.deferred (some [])), .av [.p 5 (.at 0), .p 6 (.at 0), .p 7 (.at 0), .p 9 (.at 0), .p 11 (.at 0), .p 12 (.at 0)] (R .ready none)]⟩)
    (fun a => (m - a.1).toNat) (fun a => 0 ≤ a.1 ∧ a.1 ≤ m ∧ (allPgs ⟨V, PH, G, P⟩ a.1.toNat).foldlM (mStep n f root) ⟨[], [], []⟩ = some a.2.1 ∧ a.2.2.1 = entA pairV (seenL a.2.1.seen) ∧ a.2.2.2 = entA (Value.int .u32) a.2.1.tabs) false (0, ⟨[], [], []⟩, E1, E2) (by kernel_rfl) ⟨by omega, by omega, by rfl, hE1, hE2⟩
    (LeSt.mk' [0, 1, 2, 3, 4, 5, 6, 7, 8, 9, 10, 11, 12, 13, 14, 15] (by decide) (by rfl) (by decide) (by cbv) ?_) ?_
  · conv => cbv
    exact ⟨⟨fun j _ => rngF_le _ _, trivial⟩, trivial⟩
  rintro ⟨z, ps, D1, D2⟩ ⟨hz0, hz1, hps, hD1, hD2⟩
  simp only at hz0 hz1 hps hD1 hD2
  obtain ⟨k, hk⟩ : ∃ x : Nat, z.toNat = x := ⟨_, rfl⟩
  obtain ⟨z1, hz1e⟩ : ∃ x, x = z + 1 := ⟨_, rfl⟩
  obtain ⟨vz, hvz⟩ : ∃ x, x = V.getD k 0 := ⟨_, rfl⟩
  obtain ⟨phz, hphz⟩ : ∃ x, x = PH.getD k 0 := ⟨_, rfl⟩
  obtain ⟨gz, hgz⟩ : ∃ x, x = G.getD k 0 := ⟨_, rfl⟩
  obtain ⟨pz, hpz⟩ : ∃ x, x = P.getD k 0 := ⟨_, rfl⟩
  have hvu : 0 ≤ vz ∧ vz < 4294967296 := by rw [hvz]; exact hL.v k
  have hphu : 0 ≤ phz ∧ phz < 4294967296 := by rw [hphz]; exact hL.ph k
  have hpu : 0 ≤ pz ∧ pz < 256 := by rw [hpz]; exact hL.p k
  conv => cbv
  refine Br.mk (fun hc => ?_) (fun hc => ?_)
  · have hc : z < (m : Int) := by have h : z < ofN m := ltI_t.1 hc; rw [ofN_eq] at h; exact h
    have hgood : mayB vz phz gz pz = true := by
      have := hgood0 k (by omega)
      rw [← hvz, ← hphz, ← hgz, ← hpz] at this
      exact this
    have hgd := of_decide_eq_true hgood
    have hok2 : ∀ ps2 (j : Int), 0 ≤ j → j ≤ gz → (allPgs ⟨V, PH, G, P⟩ k ++ pgsOf ⟨V, PH, G, P⟩ k j.toNat).foldlM (mStep n f root) ⟨[], [], []⟩ = some ps2 → PsOk ps2 := fun ps2 j h0 h1 h2 =>
      PsOk.fold hmo _ _ _ PsOk.zero (fun x hx => by
        rcases List.mem_append.1 hx with hx | hx
        · exact allPgs_bd hL hgood0 (by omega) x hx
        · exact pgs_bd hL hgood0 (i := k) (by omega) (by show ((j.toNat : Nat) : Int) ≤ G.getD k 0; rw [← hgz]; omega) x hx) h2
    conv => cbv
    refine ⟨inR.mk hz0 hc, nLt.mk (by simp only [leafs]; omega), ?_⟩
    refine byInv I79ok 6 ⟨[2006007, 3006006, 3006009, 4006016], 0⟩ (fun a : Int × PS × List (Value × Value) × List (Value × Value) => ⟨[(15, .i .u32 (.ex a.1)), (14, .i .u32 (.ex gz)), (4, .p 16 (.at 0)), (8, .i .i64 (.ex z)), (7, .i .i64 (.ex (ofN m))), (6, .slc 3 0 4 (.lit 0) (.ex m) (.ex cap)), (0, .fn (.yield y) [] [])],
      [memB n f, arB 0 base pages taken sealed, spB 1 root, .ro [.rows 4 (.ex m) (rngF V PH G P)], .abs F, .cells 33 [.p 2 (.at 0)], .cells 34 [.i .i64 (.ex 0)], .cells 38 [.p 0 (.at 0)], .abs (MP a.2.2.1), .cells 113 [.map 8], .abs (MP a.2.2.2), .cells 114 [.map 10], wanB a.2.1.wanted, .cells 22 [.slc 3 0 4 (.lit 0) (.ex m) (.ex cap)],
        .obj (.deferred (some [])), .av [.p 5 (.at 0), .p 6 (.at 0), .p 7 (.at 0), .p 9 (.at 0), .p 11 (.at 0), .p 12 (.at 0)] (R .ready none), .cells 31 [.i .u32 (.ex vz), .i .u32 (.ex phz), .i .i64 (.ex gz), .i .u8 (.ex pz)]]⟩)
      (fun a => (gz - a.1).toNat) (fun a => 0 ≤ a.1 ∧ a.1 ≤ gz ∧ (allPgs ⟨V, PH, G, P⟩ k ++ pgsOf ⟨V, PH, G, P⟩ k a.1.toNat).foldlM (mStep n f root) ⟨[], [], []⟩ = some a.2.1 ∧ a.2.2.1 = entA pairV (seenL a.2.1.seen) ∧ a.2.2.2 = entA (Value.int .u32) a.2.1.tabs) false (0, ps, D1, D2) (by kernel_rfl) ⟨by omega, by omega, by rw [← hk]; simpa [pgsOf] using hps, hD1, hD2⟩
      (LeSt.mk' [0, 1, 2, 3, 4, 5, 6, 7, 8, 9, 10, 11, 12, 13, 14, 15, 16] (by decide) (by rfl) (by decide) ?_ ?_) ?_
    · conv => cbv
      refine ⟨?_, trivial⟩
      show gz = convI .u32 (gi G (toN z))
      rw [convI_eq, wrap_u32, gi_eq, toN_eq, hk, ← hgz]; omega
    · conv => cbv
      refine ⟨⟨fun j _ => rngF_le _ _, trivial⟩, ⟨?_, ?_, ?_, ?_, trivial⟩, trivial⟩
      · show vz = gi V (toN z); rw [gi_eq, toN_eq, hk, hvz]
      · show phz = gi PH (toN z); rw [gi_eq, toN_eq, hk, hphz]
      · show gz = gi G (toN z); rw [gi_eq, toN_eq, hk, hgz]
      · show pz = gi P (toN z); rw [gi_eq, toN_eq, hk, hpz]
    rintro ⟨j, ps2, D3, D4⟩ ⟨hj0, hj1, hps2, hD3, hD4⟩
    simp only at hj0 hj1 hps2 hD3 hD4
    obtain ⟨pg, hpg⟩ : ∃ x, x = vz / 4096 + j := ⟨_, rfl⟩
    obtain ⟨first, hfst⟩ : ∃ x, x = pg / 1024 := ⟨_, rfl⟩
    obtain ⟨second, hsec⟩ : ∃ x, x = pg % 1024 := ⟨_, rfl⟩
    obtain ⟨fr, hfr⟩ : ∃ x, x = phz / 4096 + j := ⟨_, rfl⟩
    obtain ⟨j1, hj1e⟩ : ∃ x, x = j + 1 := ⟨_, rfl⟩
    conv => cbv
    refine Br.mk (fun hd => ?_) (fun hd => ?_)
    · have hd : j < gz := ltI_t.1 hd
      have hsh : addI .u32 (shrI .u32 vz 12) j = pg := by
        have := shrI_u32 vz 12 (by decide)
        rw [show ((12 : Nat) : Int) = 12 from rfl] at this
        have hvv := hL.v k
        simp only [← hvz] at hvv
        rw [this, addI_eq, wrap_u32, hpg]
        show (vz / 4096 + j) % _ = _
        omega
      conv => cbv
      refine ECall.by_spec (place_spec pg (by omega) hfst hsec) [] (by decide) (by cbv) ?_ trivial ?_
      · conv => cbv
        exact ⟨hsh.symm, trivial⟩
      conv => cbv
      refine ECall.by_spec (pageOf_spec vz phz gz pz j hphu (by omega) hfr) [] (by decide) (by cbv) (by cbv) trivial ?_
      conv => cbv
      refine YCall.out2 ?_
      refine YCall.of hR 15 rfl rfl rfl (kcode (I := []) trivial 3 ⟨[], 0⟩ (by kernel_rfl) ?_)
      conv => cbv
      refine round1 n base pages taken root sealed f hn hmo hr V PH G P m cap F ps2 first second pz fr (by omega) (by omega) (hok2 ps2 j hj0 (by omega) hps2).len vz phz gz pz D3 D4 hD3 hD4 (fun ps' D1' D2' hst h1 h2 => ?_) (fun D1' D2' wl hst => ?_)
      · conv => cbv
        refine ⟨(j1, ps', D1', D2'), ⟨⟨by show 0 ≤ j1; omega, by show j1 ≤ gz; omega, ?_, h1, h2⟩, by show (gz - j1).toNat < (gz - j).toNat; omega⟩, _, (HImp.refl _).ext, LeSt.mk' (List.range 17) (by decide) (by rfl) (by decide) ?_ ?_⟩
        · show (allPgs ⟨V, PH, G, P⟩ k ++ pgsOf ⟨V, PH, G, P⟩ k j1.toNat).foldlM (mStep n f root) ⟨[], [], []⟩ = some ps'
          have ej : j1.toNat = j.toNat + 1 := by omega
          rw [ej, pgsOf, List.range_succ, List.map_append, ← List.append_assoc, List.foldlM_append]
          rw [pgsOf] at hps2
          rw [hps2]
          have ep : pgOf ⟨V, PH, G, P⟩ k j.toNat = (first, second) := by
            simp only [pgOf]
            rw [← hvz, hfst, hsec, hpg]
            have : ((j.toNat : Nat) : Int) = j := by omega
            rw [this]
          simp [ep, hst]
        · conv => cbv
          refine ⟨?_, trivial⟩
          show j1 = addI .u32 j 1
          rw [addI_eq, wrap_u32, hj1e]; omega
        · conv => cbv
          exact ⟨⟨fun j _ => rngF_le _ _, trivial⟩, trivial⟩
      · have herr : (allPgs ⟨V, PH, G, P⟩ m).foldlM (mStep n f root) ⟨[], [], []⟩ = none := by
          obtain ⟨l2, he⟩ := allPgs_split ⟨V, PH, G, P⟩ (i := k) (m := m) (j := j.toNat) (by omega) (by show ((j.toNat : Nat) : Int) < G.getD k 0; rw [← hgz]; omega)
          have ep : pgOf ⟨V, PH, G, P⟩ k j.toNat = (first, second) := by
            simp only [pgOf]
            rw [← hvz, hfst, hsec, hpg]
            have : ((j.toNat : Nat) : Int) = j := by omega
            rw [this]
          rw [he, List.foldlM_append, hps2]
          simp [ep, hst]
        exact herr' D1' D2' wl herr _
    · have hd : gz ≤ j := ltI_f.1 hd
      have hend : (allPgs ⟨V, PH, G, P⟩ z1.toNat).foldlM (mStep n f root) ⟨[], [], []⟩ = some ps2 := by
        have ez : z1.toNat = k + 1 := by omega
        have ej : j.toNat = (G.getD k 0).toNat := by rw [← hgz]; omega
        rw [ez, allPgs, List.range_succ, List.flatMap_append]
        rw [ej] at hps2
        rw [← hps2]
        simp [allPgs]
      conv => cbv
      refine ⟨(z1, ps2, D3, D4), ⟨⟨by show 0 ≤ z1; omega, by show z1 ≤ (m : Int); omega, hend, hD3, hD4⟩, by show ((m : Int) - z1).toNat < ((m : Int) - z).toNat; omega⟩, _, (HImp.refl _).ext, LeSt.mk' (List.range 16) (by decide) (by rfl) (by decide) ?_ ?_⟩
      · conv => cbv
        refine ⟨?_, trivial⟩
        show z1 = addI .i64 z 1
        rw [addI_eq, IntWalk.i64_in _ (by have := hL.m; omega), hz1e]
      · conv => cbv
        exact ⟨⟨fun j _ => rngF_le _ _, trivial⟩, trivial⟩
  · have hc : (m : Int) ≤ z := by have h : ofN m ≤ z := ltI_f.1 hc; rw [ofN_eq] at h; exact h
    have hzm : z.toNat = m := by omega
    rw [hzm] at hps
    have hpo : PsOk ps := PsOk.fold hmo _ _ _ PsOk.zero (fun x hx => allPgs_bd hL hgood0 (Nat.le_refl _) x hx) hps
    conv => cbv
    exact hok ps D1 D2 hps hpo hD1 hD2
theorem map_spec (n base pages taken root : Int) (sealed : Bool) (f : Int → Int) (V PH G P : List Int) (m cap : Nat) (hL : RgsOk ⟨V, PH, G, P⟩ m) (hn : 1 ≤ n ∧ n ≤ 4096) (hmo : MemOk f) (hr : 0 ≤ root ∧ root < 4294967296) (ha : ArOk n base pages taken)
    {e : Int} {f' : Int → Int} {tk' : Int} (hres : (e, f', tk') = mapP n base pages taken root sealed f ⟨V, PH, G, P⟩ m) :
    Spec1 kit 17 [.p 2 (.at 0), .slc 3 0 4 (.lit 0) (.ex m) (.ex cap)] [memB n f, arB 0 base pages taken sealed, spB 1 root, .ro [.rows 4 (.ex m) (rngF V PH G P)]] false (.i .i64 (.ex e)) [memB n f', arB 0 base pages tk' sealed, spB 1 root, .ro [.rows 4 (.ex m) (rngF V PH G P)]] [] := by
  refine Spec1.mk2 rfl fun F => ?_
  obtain ⟨bad, hbad⟩ : ∃ x, x = (List.range m).any (badR ⟨V, PH, G, P⟩) := ⟨_, rfl⟩
  obtain ⟨E1, hE1⟩ : ∃ x, x = entA pairV (seenL []) := ⟨_, rfl⟩
  obtain ⟨E2, hE2⟩ : ∃ x, x = entA (Value.int .u32) [] := ⟨_, rfl⟩
  have hfin : ∀ {e2 : Int}, (e, f', tk') = (e2, f, taken) → e2 = e ∧ f' = f ∧ tk' = taken := fun h => by
    simp only [Prod.mk.injEq] at h; exact ⟨h.1.symm, h.2.1, h.2.2⟩
  refine into I17ok 6 ?_
  conv => cbv
  refine OkCall.by_spec (bad_spec V PH G P m cap hL hbad) [3] (by decide) (by cbv) ?_ ?_
  · conv => cbv
    exact ⟨⟨fun j _ => rngF_le _ _, trivial⟩, trivial⟩
  conv => cbv
  refine Br.mk (fun hcb => ?_) (fun hcb => ?_)
  · have hcb : bad = true := hcb
    rw [mapP, ← hbad, if_pos hcb] at hres
    obtain ⟨rfl, rfl, rfl⟩ := hfin hres
    conv => cbv
    refine (LeOut.mk' (List.range 5) (by decide) rfl (by decide) (by cbv) ?_).two
    conv => cbv
    exact ⟨⟨fun j _ => rngF_le _ _, trivial⟩, trivial⟩
  · have hcb : bad = false := hcb
    have hgood0 : ∀ j, j < m → mayB (V.getD j 0) (PH.getD j 0) (G.getD j 0) (P.getD j 0) = true := fun j hj => by
      have := List.any_eq_false.1 (hbad.symm.trans hcb) j (List.mem_range.2 hj)
      simp only [badR] at this
      simpa using this
    rw [mapP, ← hbad, if_neg (by rw [hcb]; decide)] at hres
    conv => cbv
    refine XOpN.x (XOpN.makeB (.abs (MP E1)) (fun ρ b w h => by rw [hE1]; exact makeMP ρ b w h) ?_)
    conv => cbv
    refine XOpN.x (XOpN.makeB (.abs (MP E2)) (fun ρ b w h => by rw [hE2]; exact makeMP ρ b w h) ?_)
    conv => cbv
    refine Ok.imp (HImp.fold (S := wanSh []) 13 [] [.cells 89 [.nilslc]] (by decide) (by cbv) (.inl ⟨rfl, rfl⟩)) ?_
    refine Ok.weak (q' := false) (st' := ⟨[(34, .fn (.func 79) [] [.p 13 (.at 0)]), (1, .slc 3 0 4 (.lit 0) (.ex m) (.ex cap)), (2, .p 5 (.at 0)), (4, .p 6 (.at 0)), (5, .p 7 (.at 0)), (6, .p 9 (.at 0)), (7, .p 11 (.at 0)), (8, .p 12 (.at 0))],
      [memB n f, arB 0 base pages taken sealed, spB 1 root, .ro [.rows 4 (.ex m) (rngF V PH G P)], .abs F, .cells 33 [.p 2 (.at 0)], .cells 34 [.i .i64 (.ex 0)], .cells 38 [.p 0 (.at 0)], .abs (MP E1), .cells 113 [.map 8], .abs (MP E2), .cells 114 [.map 10], wanB [], .cells 22 [.slc 3 0 4 (.lit 0) (.ex m) (.ex cap)]]⟩)
      (LeSt.mk' [0, 1, 2, 3, 4, 5, 6, 8, 9, 10, 11, 12, 13, 14] (by decide) (by rfl) (by decide) (by cbv) ?_) ?_
    · conv => cbv
      exact ⟨⟨fun j _ => rngF_le _ _, trivial⟩, trivial⟩
    refine Ok.rangeFunc [2, 4, 5, 6, 7, 8] rfl rfl rfl fun y R hR => ?_
    refine map_pass1 hR n base pages taken root sealed f V PH G P m cap hL hn hmo hr F hgood0 E1 E2 hE1 hE2 (fun ps D1 D2 hps hpo hD1 hD2 => ?_) (fun D1 D2 wl hps rg => ?_)
    · rw [hps] at hres
      have htl := map_tail n base pages taken root sealed f hn hr ha V PH G P m cap hL hgood0 F ps D1 D2 hD2 hpo.tb ps.wanted rfl ps.wanted.length rfl hpo.len hres
      refine ⟨.normal, ?_⟩
      conv => cbv
      refine Ok.weak (LeSt.mk' (List.range 16) (by decide) rfl (by decide) (by cbv) ?_) htl
      conv => cbv
      exact ⟨⟨fun j _ => rngF_le _ _, trivial⟩, trivial⟩
    · rw [hps] at hres
      obtain ⟨rfl, rfl, rfl⟩ := hfin hres
      refine ⟨.ret, ?_⟩
      conv => cbv
      refine (LeOut.mk' (List.range 5) (by decide) rfl (by decide) (by cbv) ?_).two
      conv => cbv
      exact ⟨⟨fun j _ => rngF_le _ _, trivial⟩, trivial⟩
end Go.Proofs.Ytnefllaeleihcaa
end
