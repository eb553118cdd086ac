/-
  Joined: LQ LM LN MO LO LR.
-/
import Derived.Test.YtnefllaeleihcaaZ6
set_option linter.unusedVariables false
set_option linter.unusedSimpArgs false
/-
  TablesMany: the walk of a round of the looks.
-/
section
namespace Go.Proofs.Ytnefllaeleihcaa
open Go Go.Vex
set_option maxRecDepth 20000
set_option maxHeartbeats 4000000
noncomputable def O7 : Opt := ⟨[1000010, 1000033], 0⟩
noncomputable def O7b : Opt := ⟨[1000039], 0⟩
noncomputable def I7 : FnT := [(7, fi Try.f7 O7), (20, fi Try.f20 ⟨[], 0⟩)]
theorem I7ok : FnsOk kit I7 := ⟨fo7 _, fo20 _, trivial⟩
noncomputable def c7c : Code := (codeAt 39 (Try.f7.body.getD .skip)).getD .skip
noncomputable def c7b : Code := (codeAt 33 (Try.f7.body.getD .skip)).getD .skip
noncomputable def c7a : Code := (codeAt 10 (Try.f7.body.getD .skip)).getD .skip
theorem many_round (n m : Nat) (nn : Int) (hnn : nn = n) (st fa far : Int) (f : Int → Int) (RL : List Int) (r cap : Nat) (jc : Nat) (hn : n ≤ 300) (hs : 1 ≤ st ∧ st ≤ 3) (hfar : -9223372036854775808 ≤ far ∧ far < 9223372036854775808) (hfa : fa = pickP far 300) (hm : MemOk f) (hr : RL.length = r) (hr40 : r ≤ 40) (hcap : r ≤ cap)
    (A : Option (Nat × Nat) → Vex.Own → World → Prop) (z : Int) (hz0 : 0 ≤ z) (hc : z < r) (R : Int) (hR : R = RL.getD z.toNat 0) (hR0 : 0 ≤ R) (hR1 : R < 4294967296)
    (tb : Int → Option Int) (E : List PgE) (hE : E = mnE n st fa (z.toNat : Int) ++ sgE (if z.toNat = 0 then 150 else 0)) (hspz : SpInv 700 f R tb (setA (fun _ _ => 0) E)) (hall : allP 700 f R = E.map wOf) (hroot : R = gi RL (toN z))
    (A0 P0 F0 : List Int) (hA0 : A0 = (allP 700 f R).map (·.1)) (hP0 : P0 = (allP 700 f R).map (fun x => decP x.2)) (hF0 : F0 = (allP 700 f R).map (fun x => decF x.2)) (hmE : m = n + (if z.toNat = 0 then 150 else 0)) (cap1 jc1 : Nat)
    {Q : Bool → Ex → St → Prop} (hQ : ∀ (y : Int) (b : Bool) (o : Int), Q false .normal ⟨[(246, .b (.ex b)), (245, .i .i64 (.ex o)), (244, .slc 4 0 4 (.lit 0) (.ex m) (.ex cap1)), (243, .i .i64 (.ex y)), (32, .i .i64 (.ex y)), (23, .i .i64 (.ex z)), (24, .slc 4 0 4 (.lit 0) (.ex m) (.ex cap1)), (10, .p 1 (.at 0)), (12, .i .i64 (.ex nn)), (13, .i .i64 (.ex st)), (14, .slc 2 0 1 (.lit 0) (.lit 4) (.lit 4)), (15, .slc 3 0 1 (.lit 0) (.ex r) (.ex cap)), (3, .i .i64 (.ex far))], [.abs A, memB 700 f, .ro [.ints .u8 (.ex 4) [1, 3, 4, 5]], .cells 27 [.ints .u32 (.ex r) RL, .junk 1 (.ex jc)], .cells 87 [.rows 4 (.ex m) (fndG A0 P0 F0), .junk 4 (.ex jc1)]]⟩) :
    Ok kit 274 1 c7c false ⟨[(23, .i .i64 (.ex z)), (24, .slc 4 0 4 (.lit 0) (.ex m) (.ex cap1)), (10, .p 1 (.at 0)), (12, .i .i64 (.ex nn)), (13, .i .i64 (.ex st)), (14, .slc 2 0 1 (.lit 0) (.lit 4) (.lit 4)), (15, .slc 3 0 1 (.lit 0) (.ex r) (.ex cap)), (3, .i .i64 (.ex far))], [.abs A, memB 700 f, .ro [.ints .u8 (.ex 4) [1, 3, 4, 5]], .cells 27 [.ints .u32 (.ex r) RL, .junk 1 (.ex jc)], .cells 87 [.rows 4 (.ex m) (fndG A0 P0 F0), .junk 4 (.ex jc1)]]⟩ Q := by
  have hElen : E.length = m := by rw [hE, List.length_append, mnE, sgE, List.length_map, List.length_map, List.length_range, List.length_range, hmE]
  have hnm : n ≤ m := by omega
  have hck : ∀ (kn : Nat) (g : Int × Int → Int), kn < m → ((allP 700 f R).map g).getD kn 0 = g (wOf (E.getD kn ((0, 0), (0, 0)))) := fun kn g hk => by
    rw [hall, List.map_map, List.getD_eq_getElem?_getD, List.getElem?_map, List.getD_eq_getElem?_getD, List.getElem?_eq_getElem (by omega)]; rfl
  refine kcode I7ok 6 ⟨[], 0⟩ (by kernel_rfl) ?_
  conv => cbv
  refine OkLoop.gen fun Q2 hQ2 => ?_
  refine byInv I7ok 6 ⟨[], 0⟩ (fun k : Int => ⟨[(25, .i .i64 (.ex k)), (23, .i .i64 (.ex z)), (24, .slc 4 0 4 (.lit 0) (.ex m) (.ex cap1)), (10, .p 1 (.at 0)), (12, .i .i64 (.ex nn)), (13, .i .i64 (.ex st)), (14, .slc 2 0 1 (.lit 0) (.lit 4) (.lit 4)), (15, .slc 3 0 1 (.lit 0) (.ex r) (.ex cap)), (3, .i .i64 (.ex far))], [.abs A, memB 700 f, .ro [.ints .u8 (.ex 4) [1, 3, 4, 5]], .cells 27 [.ints .u32 (.ex r) RL, .junk 1 (.ex jc)], .cells 87 [.rows 4 (.ex m) (fndG A0 P0 F0), .junk 4 (.ex jc1)]]⟩)
    (fun k => (n - k).toNat) (fun k => 0 ≤ k ∧ k ≤ n) false 0 (by kernel_rfl) ⟨by omega, by omega⟩ (LeSt.mk' [0, 1, 2, 3, 4] (by decide) (by rfl) (by decide) (by cbv) ?_) ?_
  · conv => cbv
    exact ⟨⟨fun j _ => fndG_le _ _ _ _ _, trivial⟩, trivial⟩
  rintro k ⟨hk0, hk1⟩
  obtain ⟨k1, hk1'⟩ : ∃ x, k + 1 = x := ⟨_, rfl⟩
  conv => cbv
  refine Br.mk (fun hd => ?_) (fun hd => ?_)
  · have hd : k < (n : Int) := by have h : k < nn := ltI_t.1 hd; rw [hnn] at h; exact h
    conv => cbv
    have hrem : remI (addI .i64 k z) 4 = (k + z) % 4 := by rw [addI_eq, IntWalk.i64_in _ (by omega), remI_eq, Int.tmod_eq_emod_of_nonneg (by omega)]
    have hir : inR (remI (addI .i64 k z) 4) 4 := inR.mk (by rw [hrem]; omega) (by rw [hrem]; omega)
    have hil : nLt (toN (remI (addI .i64 k z) 4)) 4 := nLt.mk (by rw [toN_eq, hrem]; omega)
    refine ⟨hir, hil, ?_⟩
    refine OkCall.args (args' := [.i .i64 (.ex far), .i .i64 (.ex 300)]) ⟨⟨rfl, rfl⟩, ⟨rfl, rfl⟩, trivial⟩ (OkCall.by_spec (pick_spec far 300 (by omega) (by omega) hfa) [] (by decide) (by cbv) (by cbv) ?_)
    conv => cbv
    have hkm : inR k m := inR.mk hk0 (by omega)
    have hkl : nLt (toN k) m := nLt.mk (by rw [toN_eq]; omega)
    obtain ⟨kn, hkn⟩ : ∃ x : Nat, x = k.toNat := ⟨_, rfl⟩
    have hknk : (kn : Int) = k := by omega
    have hEk : E.getD kn ((0, 0), (0, 0)) = ((0, k * st), (mnP z kn, mnQ fa z kn)) := by
      rw [hE, List.getD_eq_getElem?_getD, List.getElem?_append_left (by rw [mnE, List.length_map, List.length_range]; omega), mnE, List.getElem?_map, List.getElem?_range (by omega)]
      simp only [Option.map_some, Option.getD_some, hknk, show ((z.toNat : Nat) : Int) = z by omega]
    have hEl : kn < E.length := by rw [hE, List.length_append, mnE, List.length_map, List.length_range]; omega
    have hck : ∀ g : Int × Int → Int, ((allP 700 f R).map g).getD kn 0 = g (wOf (E.getD kn ((0, 0), (0, 0)))) := fun g => by
      rw [hall, List.map_map, List.getD_eq_getElem?_getD, List.getElem?_map, List.getD_eq_getElem?_getD, List.getElem?_eq_getElem hEl]; rfl
    rw [hEk] at hck
    have hmul := mn_mul (k := kn) hn (by omega) hs
    rw [hknk] at hmul
    have hfab := pickP_bd (c := far) (n := 300) (by decide)
    rw [← hfa] at hfab
    have hq : 0 ≤ mnQ fa z kn ∧ mnQ fa z kn < 300 := by unfold mnQ; omega
    have henc : encE 1 (mnP z kn) (mnQ fa z kn) = 0 := encE1.2 ⟨mnP_ok hz0, by omega⟩
    obtain ⟨hw1, hw2⟩ := wOf_dec (e := ((0, k * st), (mnP z kn, mnQ fa z kn))) henc hq.1
    have hAk : gi A0 (toN k) = 4096 * (k * st) := by
      rw [gi_eq, toN_eq, ← hkn, hA0, hck]; show (0 * 1024 + k * st) * 4096 = _; omega
    have hPk : gi P0 (toN k) = mnP z kn := by rw [gi_eq, toN_eq, ← hkn, hP0, hck]; exact hw1
    have hFk : gi F0 (toN k) = mnQ fa z kn := by rw [gi_eq, toN_eq, ← hkn, hF0, hck]; exact hw2
    have hat : convI .u32 (mulI .i64 (mulI .i64 4096 k) st) = 4096 * (k * st) := by
      have e : 4096 * k * st = 4096 * (k * st) := Int.mul_assoc _ _ _
      rw [mulI_eq, mulI_eq, IntWalk.i64_in (4096 * k) (by omega), e, IntWalk.i64_in _ (by omega), convI_eq, wrap_u32]; omega
    refine ⟨hkm, hkl, Br.no (neI_f.2 (by show gi A0 (toN k) = convI .u32 (mulI .i64 (mulI .i64 4096 k) st); rw [hAk, hat])) ?_⟩
    conv => cbv
    have hperm : gi [1, 3, 4, 5] (toN (remI (addI .i64 k z) 4)) = mnP z kn := by rw [gi_eq, toN_eq, hrem, mnP, hknk]
    have hfrm : convI .u32 (remI (addI .i64 (addI .i64 (mulI .i64 7 k) z) fa) 300) = mnQ fa z kn := by
      rw [mulI_eq, addI_eq, addI_eq, IntWalk.i64_in (7 * k) (by omega), IntWalk.i64_in (7 * k + z) (by omega), IntWalk.i64_in _ (by omega), remI_eq, Int.tmod_eq_emod_of_nonneg (by omega), convI_eq, wrap_u32, mnQ, hknk]; omega
    refine ⟨hkm, hkl, Br.no (by show notB (andB (eqI (gi P0 (toN k)) (gi [1, 3, 4, 5] (toN (remI (addI .i64 k z) 4)))) (eqI (gi F0 (toN k)) (convI .u32 (remI (addI .i64 (addI .i64 (mulI .i64 7 k) z) fa) 300)))) = false; rw [hPk, hperm, hFk, hfrm, notB_eq, andB_eq, eqI_t.2 rfl, eqI_t.2 rfl]; rfl) ?_⟩
    conv => cbv
    have hwalk : ∀ a, allowB (mnP z kn) a = true → ∃ s1 s2 : Int × Int, walkP 700 f R (4096 * (k * st) + 8) a = (mnQ fa z kn * 4096 + 8, [s1, s2], 0) := fun a haw => by
      have hmem : ((0, k * st), (mnP z kn, mnQ fa z kn)) ∈ E := by
        rw [← hEk, List.getD_eq_getElem?_getD, List.getElem?_eq_getElem hEl]; exact List.getElem_mem hEl
      have hMk := setA_in (x := ((0, k * st), (mnP z kn, mnQ fa z kn))) E (fun _ _ => 0) (byPg_nodup (by rw [hE]; exact many_sorted hn hs)) hmem
      obtain ⟨s1, s2, hw⟩ := walk_page (n := 700) (by decide) hspz (v := 4096 * (k * st) + 8) (a := a) (by omega) henc (by omega) (by
        rw [show (4096 * (k * st) + 8) / 4096 / 1024 = 0 by omega, show (4096 * (k * st) + 8) / 4096 % 1024 = k * st by omega]; exact hMk)
      refine ⟨s1, s2, ?_⟩
      rw [hw, if_pos haw, if_pos haw, show (4096 * (k * st) + 8) % 4096 = 8 by omega]
    have hiz : inR z r := inR.mk hz0 hc
    have hlz : nLt (toN z) r := nLt.mk (by rw [toN_eq]; omega)
    have hva : addI .u32 (gi A0 (toN k)) 8 = 4096 * (k * st) + 8 := by rw [hAk, addI_eq, wrap_u32]; omega
    refine Br.mk (fun h5 => ?_) (fun h5 => ?_)
    · have h5 : mnP z kn = 4 := by rw [← hperm]; exact eqI_t.1 h5
      obtain ⟨s1, s2, hw⟩ := hwalk 3 (by rw [h5]; decide)
      conv => cbv
      refine ⟨hiz, hlz, hkm, hkl, ?_⟩
      obtain ⟨vv, hvv⟩ : ∃ y, y = 4096 * (k * st) + 8 := ⟨_, rfl⟩
      obtain ⟨ad, had⟩ : ∃ y, y = mnQ fa z kn * 4096 + 8 := ⟨_, rfl⟩
      rw [← hvv] at hw hva
      rw [← had] at hw
      refine OkCall.by_specM (walk_is 700 f R vv 3 (by decide) hm ⟨hR0, hR1⟩ (by omega) (A := [s1.1, s2.1]) (B := [s1.2, s2.2]) (m := 2) ⟨_, hw, rfl, rfl, rfl⟩) [1] (by decide) ?_ (by cbv) ?_
      · conv => cbv
        exact ⟨hroot, hva.symm, trivial⟩
      rintro q v hp1 new ⟨rfl, rfl, cap3, jc3, hcap3, rfl, rfl⟩
      conv => cbv
      refine Br.no (neI_f.2 rfl) ?_
      conv => cbv
      refine Br.no (neI_f.2 (by show ad = addI .u32 (mulI .u32 4096 (convI .u32 (remI (addI .i64 (addI .i64 (mulI .i64 7 k) z) fa) 300))) 8; rw [hfrm, mulI_eq, addI_eq, wrap_u32, wrap_u32, had]; omega)) ?_
      conv => cbv
      refine ⟨k1, ⟨⟨by show 0 ≤ k1; omega, by show k1 ≤ (n : Int); omega⟩, by show ((n : Int) - k1).toNat < ((n : Int) - k).toNat; omega⟩, _, (HImp.refl _).ext, LeSt.mk' [0, 1, 2, 3, 4] (by decide) (by rfl) (by decide) ?_ ?_⟩
      · conv => cbv
        refine ⟨?_, trivial⟩
        show k1 = addI .i64 k 1
        rw [addI_eq, IntWalk.i64_in _ (by omega), hk1']
      · conv => cbv
        exact ⟨⟨fun j _ => fndG_le _ _ _ _ _, trivial⟩, trivial⟩
    · have h5 : mnP z kn ≠ 4 := by rw [← hperm]; exact eqI_f.1 h5
      have hp4 := permOk_iff.1 (mnP_ok (i := z) (k := kn) hz0)
      conv => cbv
      obtain ⟨s1, s2, hw⟩ := hwalk 1 (by rcases hp4 with h | h | h | h | h <;> first | exact absurd h h5 | (rw [h]; decide))
      refine ⟨hiz, hlz, hkm, hkl, ?_⟩
      obtain ⟨vv, hvv⟩ : ∃ y, y = 4096 * (k * st) + 8 := ⟨_, rfl⟩
      obtain ⟨ad, had⟩ : ∃ y, y = mnQ fa z kn * 4096 + 8 := ⟨_, rfl⟩
      rw [← hvv] at hw hva
      rw [← had] at hw
      refine OkCall.by_specM (walk_is 700 f R vv 1 (by decide) hm ⟨hR0, hR1⟩ (by omega) (A := [s1.1, s2.1]) (B := [s1.2, s2.2]) (m := 2) ⟨_, hw, rfl, rfl, rfl⟩) [1] (by decide) ?_ (by cbv) ?_
      · conv => cbv
        exact ⟨hroot, hva.symm, trivial⟩
      rintro q v hp1 new ⟨rfl, rfl, cap3, jc3, hcap3, rfl, rfl⟩
      conv => cbv
      refine Br.no (neI_f.2 rfl) ?_
      conv => cbv
      refine Br.no (neI_f.2 (by show ad = addI .u32 (mulI .u32 4096 (convI .u32 (remI (addI .i64 (addI .i64 (mulI .i64 7 k) z) fa) 300))) 8; rw [hfrm, mulI_eq, addI_eq, wrap_u32, wrap_u32, had]; omega)) ?_
      conv => cbv
      refine ⟨k1, ⟨⟨by show 0 ≤ k1; omega, by show k1 ≤ (n : Int); omega⟩, by show ((n : Int) - k1).toNat < ((n : Int) - k).toNat; omega⟩, _, (HImp.refl _).ext, LeSt.mk' [0, 1, 2, 3, 4] (by decide) (by rfl) (by decide) ?_ ?_⟩
      · conv => cbv
        refine ⟨?_, trivial⟩
        show k1 = addI .i64 k 1
        rw [addI_eq, IntWalk.i64_in _ (by omega), hk1']
      · conv => cbv
        exact ⟨⟨fun j _ => fndG_le _ _ _ _ _, trivial⟩, trivial⟩
  · have hd : (n : Int) ≤ k := by have h : nn ≤ k := ltI_f.1 hd; rw [hnn] at h; exact h
    conv => cbv
    subst hQ2
    conv => cbv
    refine OkLoop.gen fun Q3 hQ3 => ?_
    refine byInv I7ok 6 ⟨[], 0⟩ (fun y : Int => ⟨[(32, .i .i64 (.ex y)), (23, .i .i64 (.ex z)), (24, .slc 4 0 4 (.lit 0) (.ex m) (.ex cap1)), (10, .p 1 (.at 0)), (12, .i .i64 (.ex nn)), (13, .i .i64 (.ex st)), (14, .slc 2 0 1 (.lit 0) (.lit 4) (.lit 4)), (15, .slc 3 0 1 (.lit 0) (.ex r) (.ex cap)), (3, .i .i64 (.ex far))], [.abs A, memB 700 f, .ro [.ints .u8 (.ex 4) [1, 3, 4, 5]], .cells 27 [.ints .u32 (.ex r) RL, .junk 1 (.ex jc)], .cells 87 [.rows 4 (.ex m) (fndG A0 P0 F0), .junk 4 (.ex jc1)]]⟩)
      (fun y => (m - y).toNat) (fun y => n ≤ y ∧ y ≤ m) false nn (by kernel_rfl) ⟨by omega, by omega⟩ (LeSt.mk' [0, 1, 2, 3, 4] (by decide) (by rfl) (by decide) (by cbv) ?_) ?_
    · conv => cbv
      exact ⟨⟨fun j _ => fndG_le _ _ _ _ _, trivial⟩, trivial⟩
    rintro y ⟨hy0, hy1⟩
    obtain ⟨y1, hy1'⟩ : ∃ x, y + 1 = x := ⟨_, rfl⟩
    conv => cbv
    refine Br.mk (fun hg => ?_) (fun hg => ?_)
    · have hg : y < (m : Int) := by have h : y < ofN m := ltI_t.1 hg; rw [ofN_eq] at h; exact h
      have hm150 : m ≤ n + 150 := by rw [hmE]; split <;> omega
      obtain ⟨yn, hyn⟩ : ∃ x : Nat, x = y.toNat := ⟨_, rfl⟩
      have hEk : E.getD yn ((0, 0), (0, 0)) = ((2, y - nn), (1, y - nn)) := by
        rw [hE, List.getD_eq_getElem?_getD, List.getElem?_append_right (by rw [mnE, List.length_map, List.length_range]; omega), mnE, List.length_map, List.length_range, sgE, List.getElem?_map, List.getElem?_range (by omega)]
        simp only [Option.map_some, Option.getD_some, show ((yn - n : Nat) : Int) = y - nn by omega]
      have hck := fun g => hck yn g (by omega)
      rw [hEk] at hck
      have henc : encE 1 1 (y - nn) = 0 := encE1.2 ⟨by decide, by omega⟩
      obtain ⟨hw1, hw2⟩ := wOf_dec (e := ((2, y - nn), (1, y - nn))) henc (by show 0 ≤ y - nn; omega)
      have hAk : gi A0 (toN y) = 4096 * (2048 + y - nn) := by
        rw [gi_eq, toN_eq, ← hyn, hA0, hck]; show (2 * 1024 + (y - nn)) * 4096 = _; omega
      have hFk : gi F0 (toN y) = y - nn := by rw [gi_eq, toN_eq, ← hyn, hF0, hck]; exact hw2
      have hkm : inR y m := inR.mk (by omega) hg
      have hkl : nLt (toN y) m := nLt.mk (by rw [toN_eq]; omega)
      conv => cbv
      refine ⟨hkm, hkl, Br.no (neI_f.2 (by show gi A0 (toN y) = convI .u32 (mulI .i64 4096 (subI .i64 (addI .i64 2048 y) nn)); rw [hAk, addI_eq, IntWalk.i64_in _ (by omega), subI_eq, IntWalk.i64_in _ (by omega), mulI_eq, IntWalk.i64_in _ (by omega), convI_eq, wrap_u32]; omega)) ?_⟩
      conv => cbv
      refine ⟨hkm, hkl, Br.no (neI_f.2 (by show gi F0 (toN y) = convI .u32 (subI .i64 y nn); rw [hFk, subI_eq, IntWalk.i64_in _ (by omega), convI_eq, wrap_u32]; omega)) ?_⟩
      conv => cbv
      refine ⟨y1, ⟨⟨by show (n : Int) ≤ y1; omega, by show y1 ≤ (m : Int); omega⟩, by show ((m : Int) - y1).toNat < ((m : Int) - y).toNat; omega⟩, _, (HImp.refl _).ext, LeSt.mk' [0, 1, 2, 3, 4] (by decide) (by rfl) (by decide) ?_ ?_⟩
      · conv => cbv
        refine ⟨?_, trivial⟩
        show y1 = addI .i64 y 1
        rw [addI_eq, IntWalk.i64_in _ (by omega), hy1']
      · conv => cbv
        exact ⟨⟨fun j _ => fndG_le _ _ _ _ _, trivial⟩, trivial⟩
    · conv => cbv
      subst hQ3
      conv => cbv
      exact hQ _ _ _
end Go.Proofs.Ytnefllaeleihcaa
end

/-
  TablesMany: the walk of the looks.
-/
section
namespace Go.Proofs.Ytnefllaeleihcaa
open Go Go.Vex
set_option maxRecDepth 20000
set_option maxHeartbeats 4000000
/-- What is looked at, at last: each space's pages. -/
theorem many_looks (n : Nat) (nn : Int) (hnn : nn = n) (st fa far : Int) (f : Int → Int) (RL : List Int) (r cap : Nat) (jc : Nat) (hn : n ≤ 300) (hs : 1 ≤ st ∧ st ≤ 3) (hfar : -9223372036854775808 ≤ far ∧ far < 9223372036854775808) (hfa : fa = pickP far 300) (hm : MemOk f) (hr : RL.length = r) (hr40 : r ≤ 40) (hcap : r ≤ cap)
    (hsp : ∀ j, j < r → (0 ≤ RL.getD j 0 ∧ RL.getD j 0 < 4294967296) ∧ ∃ tb, SpInv 700 f (RL.getD j 0) tb (setA (fun _ _ => 0) (mnE n st fa j ++ sgE (if j = 0 then 150 else 0))))
    (A : Option (Nat × Nat) → Vex.Own → World → Prop) {K : Bool → SV → List Blk → Prop} (hK : ∀ q v hp', leV v (.b (.lit true)) → (∃ x : Nat, hp'[x]? = some (.abs A)) → K q v hp') :
    Ok kit 274 1 c7b false ⟨[(10, .p 1 (.at 0)), (12, .i .i64 (.ex nn)), (13, .i .i64 (.ex st)), (14, .slc 2 0 1 (.lit 0) (.lit 4) (.lit 4)), (15, .slc 3 0 1 (.lit 0) (.ex r) (.ex cap)), (3, .i .i64 (.ex far))],
      [.abs A, memB 700 f, .ro [.ints .u8 (.ex 4) [1, 3, 4, 5]], .cells 27 [.ints .u32 (.ex r) RL, .junk 1 (.ex jc)]]⟩ (endS tab (fi Try.f7 O7).res K) := by
  refine kcode I7ok 6 ⟨[], 0⟩ (by kernel_rfl) ?_
  conv => cbv
  refine OkLoop.gen fun Q1 hQ1 => ?_
  refine byInv I7ok 6 O7b (fun z : Int => ⟨[(23, .i .i64 (.ex z)), (10, .p 1 (.at 0)), (12, .i .i64 (.ex nn)), (13, .i .i64 (.ex st)), (14, .slc 2 0 1 (.lit 0) (.lit 4) (.lit 4)), (15, .slc 3 0 1 (.lit 0) (.ex r) (.ex cap)), (3, .i .i64 (.ex far))], [.abs A, memB 700 f, .ro [.ints .u8 (.ex 4) [1, 3, 4, 5]], .cells 27 [.ints .u32 (.ex r) RL, .junk 1 (.ex jc)]]⟩)
    (fun z => (r - z).toNat) (fun z => 0 ≤ z ∧ z ≤ r) false 0 (by kernel_rfl) ⟨by omega, by omega⟩ (LeSt.mk' [0, 1, 2, 3] (by decide) (by rfl) (by decide) (by cbv) (by cbv)) ?_
  rintro z ⟨hz0, hz1⟩
  obtain ⟨z1, hz1'⟩ : ∃ x, z + 1 = x := ⟨_, rfl⟩
  conv => cbv
  refine Br.mk (fun hc => ?_) (fun hc => ?_)
  · have hc : z < (r : Int) := by have h : z < ofN r := ltI_t.1 hc; rw [ofN_eq] at h; exact h
    obtain ⟨⟨hR0, hR1⟩, tb, hspz⟩ := hsp z.toNat (by omega)
    obtain ⟨R, hR⟩ : ∃ x, x = RL.getD z.toNat 0 := ⟨_, rfl⟩
    obtain ⟨E, hE⟩ : ∃ x, x = mnE n st fa (z.toNat : Int) ++ sgE (if z.toNat = 0 then 150 else 0) := ⟨_, rfl⟩
    rw [← hR] at hR0 hR1 hspz
    rw [← hE] at hspz
    have hall : allP 700 f R = E.map wOf := allP_setA (by decide) hspz (by rw [hE]; exact many_sorted hn hs) (fun x hx => by
      rw [hE] at hx
      rcases List.mem_append.1 hx with hx | hx
      · have := mnE_mem hn hs (by omega) hx; omega
      · have := sgE_mem (by split <;> decide) hx; omega)
    obtain ⟨A0, hA0⟩ : ∃ x, x = (allP 700 f R).map (·.1) := ⟨_, rfl⟩
    obtain ⟨P0, hP0⟩ : ∃ x, x = (allP 700 f R).map (fun x => decP x.2) := ⟨_, rfl⟩
    obtain ⟨F0, hF0⟩ : ∃ x, x = (allP 700 f R).map (fun x => decF x.2) := ⟨_, rfl⟩
    obtain ⟨m, hml⟩ : ∃ x, x = (allP 700 f R).length := ⟨_, rfl⟩
    have hcols : Cols (allP 700 f R) A0 P0 F0 m := ⟨hA0, hP0, hF0, hml⟩
    have hmE : m = n + (if z.toNat = 0 then 150 else 0) := by rw [hml, hall, hE, List.length_map, List.length_append, mnE, sgE, List.length_map, List.length_map, List.length_range, List.length_range]
    have hroot : R = gi RL (toN z) := by rw [gi_eq, toN_eq, hR]
    conv => cbv
    refine ⟨inR.mk hz0 hc, nLt.mk (by simp only [leafs]; omega), ?_⟩
    refine OkCall.by_specM (entries_spec 700 f R (by decide) hm ⟨hR0, hR1⟩ hcols) [1] (by decide) ?_ (by cbv) ?_
    · conv => cbv
      exact ⟨hroot, trivial⟩
    rintro q v hp1 new ⟨rfl, rfl, cap1, jc1, hcap1, hjc1, rfl, rfl⟩
    conv => cbv
    refine Br.no (ltI_f.2 (by show nn ≤ ofN m; rw [ofN_eq, hnn, hmE]; split <;> omega)) ?_
    conv => cbv
    refine Br.mk (fun h1 => ?_) (fun h1 => ?_)
    · have h1 : 0 < z := ltI_t.1 h1
      have hmn : m = n := by rw [hmE, if_neg (by omega)]; rfl
      conv => cbv
      refine Br.no (neI_f.2 (by show ofN m = nn; rw [ofN_eq, hnn, hmn])) ?_
      conv => cbv
      refine Br.mk (fun h2 => ?_) (fun h2 => ?_)
      · exact absurd (eqI_t.1 h2 : z = 0) (by omega)
      conv => cbv
      refine Ok.weak (LeSt.mk' [0, 1, 2, 3, 5] (by decide) (by rfl) (by decide) (by cbv) ?_) (many_round n m nn hnn st fa far f RL r cap jc hn hs hfar hfa hm hr hr40 hcap A z hz0 hc R hR hR0 hR1 tb E hE hspz hall hroot A0 P0 F0 hA0 hP0 hF0 hmE cap1 jc1 fun y b o => ?_)
      · conv => cbv
        exact ⟨⟨fun j _ => fndG_le _ _ _ _ _, trivial⟩, trivial⟩
      conv => cbv
      refine ⟨z1, ⟨⟨by show 0 ≤ z1; omega, by show z1 ≤ (r : Int); omega⟩, by show ((r : Int) - z1).toNat < ((r : Int) - z).toNat; omega⟩, _, (HImp.refl _).ext, LeSt.mk' [0, 1, 2, 3] (by decide) (by rfl) (by decide) ?_ (by cbv)⟩
      conv => cbv
      refine ⟨?_, trivial⟩
      show z1 = addI .i64 z 1
      rw [addI_eq, IntWalk.i64_in _ (by omega), hz1']
    · have h1 : z = 0 := by have h : z ≤ 0 := ltI_f.1 h1; omega
      have hmn : m = n + 150 := by rw [hmE, if_pos (by omega)]
      conv => cbv
      refine Br.mk (fun h2 => ?_) (fun h2 => ?_)
      · conv => cbv
        refine Br.no (neI_f.2 (by show ofN m = addI .i64 nn 150; rw [ofN_eq, hnn, hmn, addI_eq, IntWalk.i64_in _ (by omega)]; omega)) ?_
        conv => cbv
        refine Ok.weak (LeSt.mk' [0, 1, 2, 3, 5] (by decide) (by rfl) (by decide) (by cbv) ?_) (many_round n m nn hnn st fa far f RL r cap jc hn hs hfar hfa hm hr hr40 hcap A z hz0 hc R hR hR0 hR1 tb E hE hspz hall hroot A0 P0 F0 hA0 hP0 hF0 hmE cap1 jc1 fun y b o => ?_)
        · conv => cbv
          exact ⟨⟨fun j _ => fndG_le _ _ _ _ _, trivial⟩, trivial⟩
        conv => cbv
        refine ⟨z1, ⟨⟨by show 0 ≤ z1; omega, by show z1 ≤ (r : Int); omega⟩, by show ((r : Int) - z1).toNat < ((r : Int) - z).toNat; omega⟩, _, (HImp.refl _).ext, LeSt.mk' [0, 1, 2, 3] (by decide) (by rfl) (by decide) ?_ (by cbv)⟩
        conv => cbv
        refine ⟨?_, trivial⟩
        show z1 = addI .i64 z 1
        rw [addI_eq, IntWalk.i64_in _ (by omega), hz1']
      · exact absurd h1 (eqI_f.1 h2)
  · have hc : (r : Int) ≤ z := by have h : ofN r ≤ z := ltI_f.1 hc; rw [ofN_eq] at h; exact h
    conv => cbv
    subst hQ1
    conv => cbv
    exact hK _ _ _ (show true = true from rfl) ⟨0, rfl⟩
end Go.Proofs.Ytnefllaeleihcaa
end

/-
  TablesNeeds: the walk.
-/
section
namespace Go.Proofs.Ytnefllaeleihcaa
open Go Go.Vex
set_option maxRecDepth 20000
set_option maxHeartbeats 4000000
noncomputable def I3 : FnT := [(3, fi Try.f3 ⟨[1000004], 0⟩)]
theorem I3ok : FnsOk kit I3 := ⟨fo3 _, trivial⟩
noncomputable def c3 : Code := (codeAt 4 (Try.f3.body.getD .skip)).getD .skip
/-- Columns of ranges. -/
structure ColsOk (A B C D : List Int) (n : Nat) : Prop where
  la : A.length = n
  lb : B.length = n
  lc : C.length = n
  ld : D.length = n
  a : ∀ z ∈ A, 0 ≤ z ∧ z < 4294967296
  b : ∀ z ∈ B, 0 ≤ z ∧ z < 4294967296
  c : ∀ z ∈ C, -9223372036854775808 ≤ z ∧ z < 9223372036854775808
  d : ∀ z ∈ D, 0 ≤ z ∧ z < 256
theorem ColsOk.ok {A B C D : List Int} {n m : Nat} (h : ColsOk A B C D n) (hm : m < 4611686018427387904) : RgsOk ⟨A, B, C, D⟩ m :=
  ⟨col_in (by decide) h.a, col_in (by decide) h.b, col_in (by decide) h.c, col_in (by decide) h.d, hm⟩
theorem ColsOk.zero {Z N : List Int} {n : Nat} (hZ : Z = List.replicate n 0) (hN : N = List.replicate n (-99)) : ColsOk Z Z N Z n := by
  subst hZ hN
  refine ⟨by simp, by simp, by simp, by simp, ?_, ?_, ?_, ?_⟩ <;> (intro z hz; rw [List.eq_of_mem_replicate hz]; decide)
theorem mem_set {l : List Int} {i : Nat} {x z : Int} (h : z ∈ l.set i x) : z ∈ l ∨ z = x := List.mem_or_eq_of_mem_set h
theorem ColsOk.set {A B C D : List Int} {n : Nat} (h : ColsOk A B C D n) (i : Nat) {x y z t : Int} (hx : 0 ≤ x ∧ x < 4294967296) (hy : 0 ≤ y ∧ y < 4294967296) (hz : -9223372036854775808 ≤ z ∧ z < 9223372036854775808) (ht : 0 ≤ t ∧ t < 256) : ColsOk (A.set i x) (B.set i y) (C.set i z) (D.set i t) n := by
  refine ⟨by simp [h.la], by simp [h.lb], by simp [h.lc], by simp [h.ld], fun u hu => ?_, fun u hu => ?_, fun u hu => ?_, fun u hu => ?_⟩
  · rcases mem_set hu with hu | rfl; exact h.a u hu; exact hx
  · rcases mem_set hu with hu | rfl; exact h.b u hu; exact hy
  · rcases mem_set hu with hu | rfl; exact h.c u hu; exact hz
  · rcases mem_set hu with hu | rfl; exact h.d u hu; exact ht
theorem upd_rng2 {A B C D : List Int} {n : Nat} (h : ColsOk A B C D n) (i a : Nat) (hi : i = a) (ha : a < n) (x y z t : Int) (τ : Nat → Nat) (j : Nat) (hj : j < n) : leL (upd (rngF A B C D) i [.i .u32 (.ex x), .i .u32 (.lit y), .i .i64 (.lit z), .i .u8 (.lit t)] j) (renL τ (rngF (A.set a x) (B.set a y) (C.set a z) (D.set a t) j)) := by
  subst hi
  rw [upd_eq]
  show leL (if j = i then _ else rngF A B C D j) _
  have h1 := h.la; have h2 := h.lb; have h3 := h.lc; have h4 := h.ld
  by_cases e : j = i
  · subst e
    rw [if_pos rfl]
    refine ⟨⟨rfl, ?_⟩, ⟨rfl, ?_⟩, ⟨rfl, ?_⟩, ⟨rfl, ?_⟩, trivial⟩ <;> (show gi _ _ = _; rw [gi_eq, List.getD_eq_getElem?_getD, List.getElem?_set_self (by omega)]; rfl)
  · rw [if_neg e]
    refine ⟨⟨rfl, ?_⟩, ⟨rfl, ?_⟩, ⟨rfl, ?_⟩, ⟨rfl, ?_⟩, trivial⟩ <;> (show gi _ _ = gi _ _; rw [gi_eq, gi_eq, List.getD_eq_getElem?_getD, List.getD_eq_getElem?_getD, List.getElem?_set_ne (Ne.symm e)])
theorem extL_in {Q : Int → Prop} (h0 : Q 0) {m : Nat} {x : Int} (hx : Q x) {V : List Int} (h : ∀ j, Q (V.getD j 0)) : ∀ z ∈ extL m x V, Q z := by
  intro z hz
  rcases List.mem_append.1 hz with hz | hz
  · obtain ⟨j, _, rfl⟩ := List.mem_map.1 hz; exact h j
  · rw [List.eq_of_mem_replicate hz]; exact hx
theorem need_ext (L L' : Rgs) (m : Nat) (h : ∀ j, j < m → L.V.getD j 0 = L'.V.getD j 0 ∧ L.PH.getD j 0 = L'.PH.getD j 0 ∧ L.G.getD j 0 = L'.G.getD j 0 ∧ L.P.getD j 0 = L'.P.getD j 0) : needP L m = needP L' m := by
  have h1 : (List.range m).any (badR L) = (List.range m).any (badR L') := by
    rw [Bool.eq_iff_iff, List.any_eq_true, List.any_eq_true]
    constructor <;> (rintro ⟨j, hj, hb⟩; refine ⟨j, hj, ?_⟩; obtain ⟨e1, e2, e3, e4⟩ := h j (List.mem_range.1 hj); simp only [badR, e1, e2, e3, e4] at hb ⊢; exact hb)
  have h2 : keysOf L m = keysOf L' m := by
    have : allFsts L m = allFsts L' m := by
      unfold allFsts
      rw [List.flatMap_def, List.flatMap_def]
      congr 1
      refine List.map_congr_left fun j hj => ?_
      obtain ⟨e1, e2, e3, e4⟩ := h j (List.mem_range.1 hj)
      simp only [fstsOf, e1, e3]
    rw [keysOf, keysOf, this]
  rw [needP, needP, h1, h2]
theorem ns1 {l l' : List SV} : noSees 0 [.ro l] [.ro l'] := fun j k hj hk => by
  match j, hj with
  | (n + 1), _ => simp at hk
theorem nsn : noSeesN [] := fun k hk => by simp at hk
theorem needs_tail (V PH G P : List Int) (m c : Nat) (hL : RgsOk ⟨V, PH, G, P⟩ m) (hm : m ≤ 20) (A : Option (Nat × Nat) → Vex.Own → World → Prop) :
    Ok kit 78 2 c3 false ⟨[(0, .slc 0 0 4 (.lit 0) (.ex m) (.ex c)), (3, .b (.lit true))], [.ro [.rows 4 (.ex m) (rngF V PH G P)], .abs A]⟩
      (endS tab (fi Try.f3 ⟨[], 0⟩).res fun q v hp' => leV v (.b (.lit true)) ∧ ∃ x : Nat, hp'[x]? = some (.abs A)) := by
  obtain ⟨V1, hV1⟩ : ∃ x, x = extL m 0 V := ⟨_, rfl⟩
  obtain ⟨PH1, hPH1⟩ : ∃ x, x = extL m 0 PH := ⟨_, rfl⟩
  obtain ⟨G1, hG1⟩ : ∃ x, x = extL m (-77) G := ⟨_, rfl⟩
  obtain ⟨P1, hP1⟩ : ∃ x, x = extL m 0 P := ⟨_, rfl⟩
  obtain ⟨m8, hm8⟩ : ∃ x, x = m + 8 := ⟨_, rfl⟩
  obtain ⟨r, hr⟩ : ∃ x, x = needP ⟨V, PH, G, P⟩ m := ⟨_, rfl⟩
  obtain ⟨Z, hZ⟩ : ∃ x : List Int, x = List.replicate m8 0 := ⟨_, rfl⟩
  obtain ⟨N, hN⟩ : ∃ x : List Int, x = List.replicate m8 (-99) := ⟨_, rfl⟩
  have hL1 : RgsOk ⟨V1, PH1, G1, P1⟩ m := ⟨by rw [hV1]; exact col_in (P := fun z => 0 ≤ z ∧ z < 4294967296) ⟨by decide, by decide⟩ (extL_in (Q := fun z => 0 ≤ z ∧ z < 4294967296) ⟨by decide, by decide⟩ ⟨by decide, by decide⟩ hL.v), by rw [hPH1]; exact col_in (P := fun z => 0 ≤ z ∧ z < 4294967296) ⟨by decide, by decide⟩ (extL_in (Q := fun z => 0 ≤ z ∧ z < 4294967296) ⟨by decide, by decide⟩ ⟨by decide, by decide⟩ hL.ph),
    by rw [hG1]; exact col_in (P := fun z => -9223372036854775808 ≤ z ∧ z < 9223372036854775808) ⟨by decide, by decide⟩ (extL_in (Q := fun z => -9223372036854775808 ≤ z ∧ z < 9223372036854775808) ⟨by decide, by decide⟩ ⟨by decide, by decide⟩ hL.g), by rw [hP1]; exact col_in (P := fun z => 0 ≤ z ∧ z < 256) ⟨by decide, by decide⟩ (extL_in (Q := fun z => 0 ≤ z ∧ z < 256) ⟨by decide, by decide⟩ ⟨by decide, by decide⟩ hL.p), hL.m⟩
  have hr1 : r = needP ⟨V1, PH1, G1, P1⟩ m := by
    rw [hr]
    refine need_ext _ _ m fun j hj => ?_
    simp only
    rw [hV1, hPH1, hG1, hP1, extL_lo hj, extL_lo hj, extL_lo hj, extL_lo hj]
    exact ⟨rfl, rfl, rfl, rfl⟩
  refine kcode I3ok 6 ⟨[], 0⟩ (by kernel_rfl) ?_
  conv => cbv
  refine OkCall.by_specM (lent_spec V PH G P m c (by omega) hV1 hPH1 hG1 hP1 hm8) [0] (by decide) (by cbv) ?_ ?_
  · conv => cbv
    exact ⟨⟨fun j _ => rngF_le _ _, trivial⟩, trivial⟩
  rintro q v hp1 new ⟨rfl, rfl, cap, jc, hcap, hjc, rfl, rfl⟩
  conv => cbv
  have htm : toN (ofN m) = m := by rw [ofN_eq, toN_eq]; omega
  refine ⟨by show nLe m8 cap; rw [nLe_eq]; exact hcap, by show leR (ofN m) cap; rw [leR_eq, ofN_eq]; omega, ?_⟩
  refine OkCall.by_spec (Spec1.lend (need_spec V1 PH1 G1 P1 m cap hL1 hr1) 0 31 [.rows 4 (.ex m8) (rngF V1 PH1 G1 P1), .junk 4 (.ex jc)] rfl rfl (Pre.rows (by omega)) ns1 nsn) [3] (by decide) ?_ ?_ ?_
  · conv => cbv
    refine ⟨⟨?_, trivial⟩, trivial⟩
    show m = toN (ofN m)
    exact htm.symm
  · conv => cbv
    exact ⟨⟨fun j _ => rngF_le _ _, trivial⟩, trivial⟩
  conv => cbv
  refine OkCall.by_spec (kept_spec (jc := jc) V PH G P m c c cap (by omega) hV1 hPH1 hG1 hP1 hm8 hcap hZ hN) [3, 0] (by decide) (by cbv) ?_ ?_
  · conv => cbv
    exact ⟨⟨fun j _ => rngF_le _ _, trivial⟩, ⟨fun j _ => rngF_le _ _, trivial⟩, trivial⟩
  conv => cbv
  refine byInv I3ok 6 ⟨[], 0⟩ (fun a : Int × List Int × List Int × List Int × List Int => ⟨[(7, .i .i64 (.ex a.1)), (6, .b (.lit true)), (5, .i .i64 (.ex r)), (4, .slc 2 0 4 (.lit 0) (.ex m8) (.ex cap)), (0, .slc 0 0 4 (.lit 0) (.ex m) (.ex c)), (3, .b (.lit true))], [.ro [.rows 4 (.ex m) (rngF V PH G P)], .abs A, .cells 31 [.rows 4 (.ex m8) (rngF a.2.1 a.2.2.1 a.2.2.2.1 a.2.2.2.2), .junk 4 (.ex jc)]]⟩)
    (fun a => (m - a.1).toNat) (fun a => 0 ≤ a.1 ∧ a.1 ≤ m ∧ ColsOk a.2.1 a.2.2.1 a.2.2.2.1 a.2.2.2.2 m8) false (0, Z, Z, N, Z) (by kernel_rfl) ⟨by omega, by omega, ColsOk.zero hZ hN⟩ (LeSt.mk' [0, 1, 3] (by decide) (by rfl) (by decide) (by cbv) ?_) ?_
  · conv => cbv
    exact ⟨⟨fun j _ => rngF_le _ _, trivial⟩, ⟨fun j _ => rngF_le _ _, trivial⟩, trivial⟩
  rintro ⟨y, A2, B2, C2, D2⟩ ⟨hy0, hy1, hco⟩
  simp only at hy0 hy1 hco
  obtain ⟨y1, hy1'⟩ : ∃ x, x = y + 1 := ⟨_, rfl⟩
  obtain ⟨w, hw⟩ : ∃ x, x = shlI .u32 (convI .u32 y) 22 := ⟨_, rfl⟩
  have hwu : 0 ≤ w ∧ w < 4294967296 := by rw [hw, shlI_eq, wrap_u32]; omega
  obtain ⟨A3, hA3⟩ : ∃ x, x = A2.set y.toNat w := ⟨_, rfl⟩
  obtain ⟨B3, hB3⟩ : ∃ x, x = B2.set y.toNat 0 := ⟨_, rfl⟩
  obtain ⟨C3, hC3⟩ : ∃ x, x = C2.set y.toNat 1 := ⟨_, rfl⟩
  obtain ⟨D3, hD3⟩ : ∃ x, x = D2.set y.toNat 1 := ⟨_, rfl⟩
  obtain ⟨r2, hr2⟩ : ∃ x, x = needP ⟨A2, B2, C2, D2⟩ m := ⟨_, rfl⟩
  conv => cbv
  refine Br.mk (fun hd => ?_) (fun hd => ?_)
  · have hd : y < (m : Int) := by have h : y < ofN m := ltI_t.1 hd; rw [ofN_eq] at h; exact h
    have hco1 : ColsOk A3 B3 C3 D3 m8 := by rw [hA3, hB3, hC3, hD3]; exact hco.set _ hwu (by decide) (by decide) (by decide)
    conv => cbv
    refine ⟨inR.mk (by omega) (by omega), nLt.mk (by simp only [leafs]; omega), (y1, A3, B3, C3, D3), ⟨⟨by show 0 ≤ y1; omega, by show y1 ≤ (m : Int); omega, hco1⟩, by show ((m : Int) - y1).toNat < ((m : Int) - y).toNat; omega⟩, _, (HImp.refl _).ext, LeSt.mk' [0, 1, 2] (by decide) (by rfl) (by decide) ?_ ?_⟩
    · conv => cbv
      refine ⟨?_, trivial⟩
      show y1 = addI .i64 y 1
      rw [addI_eq, IntWalk.i64_in _ (by omega), hy1']
    · conv => cbv
      refine ⟨⟨fun j _ => rngF_le _ _, trivial⟩, ⟨fun j hj => ?_, trivial⟩, trivial⟩
      show leL (upd (rngF A2 B2 C2 D2) (toN y) [.i .u32 (.ex (shlI .u32 (convI .u32 y) 22)), .i .u32 (.lit 0), .i .i64 (.lit 1), .i .u8 (.lit 1)] j) (renL _ (rngF A3 B3 C3 D3 j))
      rw [hA3, hB3, hC3, hD3, ← hw]
      exact upd_rng2 hco (toN y) y.toNat (toN_eq y) (by omega) w 0 1 1 _ j hj
  · have hd : (m : Int) ≤ y := by have h : ofN m ≤ y := ltI_f.1 hd; rw [ofN_eq] at h; exact h
    have hL2 := hco.ok (m := m) (by omega)
    conv => cbv
    refine ⟨by show nLe m8 cap; rw [nLe_eq]; exact hcap, by show leR (ofN m) cap; rw [leR_eq, ofN_eq]; omega, ?_⟩
    refine OkCall.by_spec (Spec1.lend (need_spec A2 B2 C2 D2 m cap hL2 hr2) 0 31 [.rows 4 (.ex m8) (rngF A2 B2 C2 D2), .junk 4 (.ex jc)] rfl rfl (Pre.rows (by omega)) ns1 nsn) [2] (by decide) ?_ ?_ ?_
    · conv => cbv
      refine ⟨⟨?_, trivial⟩, trivial⟩
      show m = toN (ofN m)
      exact htm.symm
    · conv => cbv
      exact ⟨⟨fun j _ => rngF_le _ _, trivial⟩, trivial⟩
    conv => cbv
    refine ⟨by show nLe m8 cap; rw [nLe_eq]; exact hcap, by show leR (ofN m) cap; rw [leR_eq, ofN_eq]; omega, ?_⟩
    refine OkCall.by_spec (Spec1.lend (rneed_spec A2 B2 C2 D2 m cap hL2 hr2) 0 31 [.rows 4 (.ex m8) (rngF A2 B2 C2 D2), .junk 4 (.ex jc)] rfl rfl (Pre.rows (by omega)) ns1 nsn) [2] (by decide) ?_ ?_ ?_
    · conv => cbv
      refine ⟨⟨?_, trivial⟩, trivial⟩
      show m = toN (ofN m)
      exact htm.symm
    · conv => cbv
      exact ⟨⟨fun j _ => rngF_le _ _, trivial⟩, trivial⟩
    conv => cbv
    refine OkCall.by_spec tnew_nil [] (by decide) (by cbv) trivial ?_
    conv => cbv
    refine Br.yes (show eqI r2 r2 = true from eqI_t.2 rfl) ?_
    conv => cbv
    refine OkCall.by_spec (rneed_spec V PH G P m c hL hr) [0] (by decide) (by cbv) ?_ ?_
    · conv => cbv
      exact ⟨⟨fun j _ => rngF_le _ _, trivial⟩, trivial⟩
    conv => cbv
    refine Br.yes (show eqI r r = true from eqI_t.2 rfl) ?_
    conv => cbv
    exact ⟨1, rfl⟩
theorem needs_walk : opnArgs tab 9 [22] 0 (lawK2 3) := by
  conv => cbv
  intro m c hmc hc hbytes
  conv => cbv
  intro V hVl hV
  conv => cbv
  intro PH hPHl hPH
  conv => cbv
  intro G hGl hG
  conv => cbv
  intro P hPl hP
  conv => cbv
  intro A
  have hL : RgsOk ⟨V, PH, G, P⟩ m := ⟨col_in (P := fun z => 0 ≤ z ∧ z < 4294967296) ⟨by decide, by decide⟩ (fun z hz => inK_u32 (hV z hz)), col_in (P := fun z => 0 ≤ z ∧ z < 4294967296) ⟨by decide, by decide⟩ (fun z hz => inK_u32 (hPH z hz)),
    col_in (P := fun z => -9223372036854775808 ≤ z ∧ z < 9223372036854775808) ⟨by decide, by decide⟩ (fun z hz => inK_i64 (hG z hz)), col_in (P := fun z => 0 ≤ z ∧ z < 256) ⟨by decide, by decide⟩ (fun z hz => inK_u8 (hP z hz)), by have hb : m * 24 ≤ reachBytes := hbytes; unfold reachBytes at hb; omega⟩
  refine into I3ok 6 ?_
  conv => cbv
  refine OkCall.by_spec known_spec [] (by decide) (by cbv) trivial ?_
  conv => cbv
  refine Br.mk (fun hd => ?_) (fun hd => ?_)
  · have hd : 20 < ofN m := ltI_t.1 hd
    rw [ofN_eq] at hd
    conv => cbv
    refine ⟨by show nLe m c; rw [nLe_eq]; exact hmc, by show leR 20 c; rw [leR_eq]; omega, ?_⟩
    refine Ok.imp (HImp.at 0 rfl (BImp.roPre (Pre.rows (m := 20) (by omega)))) ?_
    have hL20 : RgsOk ⟨V, PH, G, P⟩ 20 := ⟨hL.v, hL.ph, hL.g, hL.p, by decide⟩
    refine Ok.weak (LeSt.mk' [0, 1] (by decide) (by rfl) (by decide) ?_ ?_) (needs_tail V PH G P 20 c hL20 (Nat.le_refl _) A)
    · conv => cbv
      trivial
    · conv => cbv
      exact ⟨⟨fun j _ => rngF_le _ _, trivial⟩, trivial⟩
  · have hd : ofN m ≤ 20 := ltI_f.1 hd
    rw [ofN_eq] at hd
    conv => cbv
    refine Ok.weak (LeSt.mk' [0, 1] (by decide) (by rfl) (by decide) (by cbv) ?_) (needs_tail V PH G P m c hL (by omega) A)
    conv => cbv
    exact ⟨⟨fun j _ => rngF_le _ _, trivial⟩, trivial⟩
end Go.Proofs.Ytnefllaeleihcaa
end

/-
  Plain: TablesMany's spaces, one behind the other.
-/
section
namespace Go.Proofs.Ytnefllaeleihcaa
open Go Go.Vex
set_option maxHeartbeats 4000000
def mnLo (j : Nat) : Int := if j = 0 then 1228800 else 1228800 + 4096 * (2 * (j : Int) + 1)
structure MnInv (n : Nat) (st fa : Int) (f : Int → Int) (RL : List Int) (r : Nat) (tk : Int) : Prop where
  len : RL.length = r
  ok : MemOk f
  htk : tk = if r = 0 then 0 else 2 * (r : Int) + 1
  sp : ∀ j, j < r → ∃ tb, SpAt 700 f (mnLo j) (1228800 + 4096 * (2 * (j : Int) + 3)) (RL.getD j 0) (mnE n st fa (j : Int) ++ sgE (if j = 0 then 150 else 0)) tb
theorem MnInv.zero (n : Nat) (st fa : Int) : MnInv n st fa (fun _ => 0) [] 0 0 := ⟨rfl, fun _ => by decide, rfl, fun j hj => absurd hj (Nat.not_lt_zero _)⟩
theorem MnInv.u {n : Nat} {st fa : Int} {f : Int → Int} {RL : List Int} {r : Nat} {tk : Int} (h : MnInv n st fa f RL r tk) (j : Nat) (hj : j < r) (hr : r ≤ 40) : 0 ≤ RL.getD j 0 ∧ RL.getD j 0 < 4294967296 := by
  obtain ⟨tb, hs⟩ := h.sp j hj
  have := hs.r
  unfold mnLo at this
  split at this <;> omega
theorem MnInv.snoc {n : Nat} {st fa : Int} {f f' : Int → Int} {RL : List Int} {r : Nat} {tk tk' R : Int} {tb : Int → Option Int} (h : MnInv n st fa f RL r tk) (hR : R = 1228800 + 4096 * tk)
    (hk : r ≠ 0 → ∀ a, a % 4 = 0 → a < R → w32f f' a = w32f f a) (hm : MemOk f') (htk' : tk' = 2 * ((r : Int) + 1) + 1)
    (sp : SpAt 700 f' R (1228800 + 4096 * tk') R (mnE n st fa (r : Int) ++ sgE (if r = 0 then 150 else 0)) tb) {r1 : Nat} (hr1 : r1 = r + 1) {RL1 : List Int} (hRL1 : RL1 = RL ++ [R]) : MnInv n st fa f' RL1 r1 tk' := by
  subst hr1 hRL1
  have hl := h.len
  have ht := h.htk
  refine ⟨by simp [hl], hm, by rw [if_neg (by omega)]; omega, fun j hj => ?_⟩
  by_cases e : j < r
  · obtain ⟨tb0, hs⟩ := h.sp j e
    rw [List.getD_eq_getElem?_getD, List.getElem?_append_left (by omega), ← List.getD_eq_getElem?_getD]
    refine ⟨tb0, hs.keep fun a ha h0 h1 => hk (by omega) a ha ?_⟩
    rw [if_neg (by omega)] at ht
    omega
  · have e : j = r := by omega
    subst e
    rw [List.getD_eq_getElem?_getD, List.getElem?_append_right (by omega), show j - RL.length = 0 by omega]
    refine ⟨tb, ?_⟩
    have hlo : mnLo j = R := by unfold mnLo; rw [hR, ht]; split <;> omega
    rw [hlo, show (1228800 + 4096 * (2 * (j : Int) + 3) : Int) = 1228800 + 4096 * tk' by omega]
    exact sp
/-- The list that is filled. -/
structure FillOk (n : Nat) (st fa i : Int) (k : Int) (V PH G P : List Int) : Prop where
  cols : ColsOk V PH G P n
  at_ : ∀ j : Nat, (j : Int) < k → V.getD j 0 = 4096 * ((j : Int) * st) ∧ PH.getD j 0 = 4096 * mnQ fa i j ∧ G.getD j 0 = 1 ∧ P.getD j 0 = mnP i j
theorem getD_set {l : List Int} {a j : Nat} {x : Int} (h : a < l.length) : (l.set a x).getD j 0 = if j = a then x else l.getD j 0 := by
  by_cases e : j = a
  · subst e; rw [if_pos rfl, List.getD_eq_getElem?_getD, List.getElem?_set_self h]; rfl
  · rw [if_neg e, List.getD_eq_getElem?_getD, List.getElem?_set_ne (Ne.symm e), ← List.getD_eq_getElem?_getD]
theorem FillOk.set {n : Nat} {st fa i k k1 : Int} {V PH G P : List Int} (h : FillOk n st fa i k V PH G P) (hk : 0 ≤ k ∧ k < n) (hk1 : k1 = k + 1) (hn : n ≤ 300) (hs : 1 ≤ st ∧ st ≤ 3) (hi : 0 ≤ i) {a : Nat} (ha : a = k.toNat) {x y z t : Int}
    (hx : x = 4096 * (k * st)) (hy : y = 4096 * mnQ fa i a) (hz : z = 1) (ht : t = mnP i a) : FillOk n st fa i k1 (V.set a x) (PH.set a y) (G.set a z) (P.set a t) := by
  have hmul := mn_mul (k := a) hn (by omega) hs
  have hka : (a : Int) = k := by omega
  rw [hka] at hmul
  have hq : 0 ≤ mnQ fa i a ∧ mnQ fa i a < 300 := by unfold mnQ; omega
  have hp := permOk_bd (mnP_ok (k := a) hi)
  refine ⟨h.cols.set a (by omega) (by omega) (by omega) (by omega), fun j hj => ?_⟩
  have h1 := h.cols.la; have h2 := h.cols.lb; have h3 := h.cols.lc; have h4 := h.cols.ld
  rw [getD_set (by omega), getD_set (by omega), getD_set (by omega), getD_set (by omega)]
  by_cases e : j = a
  · subst e
    rw [if_pos rfl, if_pos rfl, if_pos rfl, if_pos rfl, hka]
    exact ⟨hx, hy, hz, ht⟩
  · rw [if_neg e, if_neg e, if_neg e, if_neg e]
    exact h.at_ j (by omega)
theorem col_ext {n : Nat} {V : List Int} {g : Nat → Int} (hl : V.length = n) (h : ∀ j : Nat, (j : Int) < n → V.getD j 0 = g j) : V = (List.range n).map g := by
  refine List.ext_getElem (by simp [hl]) fun j h1 h2 => ?_
  have := h j (by omega)
  rw [List.getD_eq_getElem?_getD, List.getElem?_eq_getElem h1] at this
  simpa using this
theorem FillOk.full {n : Nat} {st fa i : Int} {V PH G P : List Int} (h : FillOk n st fa i n V PH G P) : (⟨V, PH, G, P⟩ : Rgs) = mnL n st fa i := by
  have h1 := col_ext h.cols.la fun j hj => (h.at_ j hj).1
  have h2 := col_ext h.cols.lb fun j hj => (h.at_ j hj).2.1
  have h3 := col_ext h.cols.lc fun j hj => (h.at_ j hj).2.2.1
  have h4 := col_ext h.cols.ld fun j hj => (h.at_ j hj).2.2.2
  rw [h1, h2, h3, h4]; rfl
theorem upd_rng3 {A B C D A2 B2 C2 D2 : List Int} {n : Nat} (h : ColsOk A B C D n) (i a : Nat) (hi : i = a) (ha : a < n) {x y z t : Int} (hA : A2 = A.set a x) (hB : B2 = B.set a y) (hC : C2 = C.set a z) (hD : D2 = D.set a t) {s1 s2 s3 s4 : S Int}
    (h1 : s1.val = x) (h2 : s2.val = y) (h3 : s3.val = z) (h4 : s4.val = t) (τ : Nat → Nat) (j : Nat) (hj : j < n) : leL (upd (rngF A B C D) i [.i .u32 s1, .i .u32 s2, .i .i64 s3, .i .u8 s4] j) (renL τ (rngF A2 B2 C2 D2 j)) := by
  subst hi hA hB hC hD
  rw [upd_eq]
  show leL (if j = i then _ else rngF A B C D j) _
  have g1 := h.la; have g2 := h.lb; have g3 := h.lc; have g4 := h.ld
  by_cases e : j = i
  · subst e
    rw [if_pos rfl]
    refine ⟨⟨rfl, ?_⟩, ⟨rfl, ?_⟩, ⟨rfl, ?_⟩, ⟨rfl, ?_⟩, trivial⟩ <;> (show gi _ _ = _; rw [gi_eq, List.getD_eq_getElem?_getD, List.getElem?_set_self (by omega)])
    · exact h1.symm
    · exact h2.symm
    · exact h3.symm
    · exact h4.symm
  · rw [if_neg e]
    refine ⟨⟨rfl, ?_⟩, ⟨rfl, ?_⟩, ⟨rfl, ?_⟩, ⟨rfl, ?_⟩, trivial⟩ <;> (show gi _ _ = gi _ _; rw [gi_eq, gi_eq, List.getD_eq_getElem?_getD, List.getD_eq_getElem?_getD, List.getElem?_set_ne (Ne.symm e)])
theorem noSee_PM' (T : TypeId) (kvs : List (Int × List Int)) : noSee (.abs (Vex.PM T kvs)) := fun ρ a o w h => by
  obtain ⟨b, ps, _, _, h, _⟩ := h w (agree.refl _ _); rw [h]
theorem noSee_memB' (n : Int) (f : Int → Int) : noSee (memB n f) := .pk fun l ⟨kvs, _, _, e⟩ k hk => by
  subst e
  rcases List.mem_cons.1 hk with rfl | hk
  · exact .cells _ _
  · simp only [List.mem_singleton] at hk; subst hk; exact noSee_PM' _ _
theorem ns3' {n : Int} {f f' : Int → Int} {base pages taken taken' root : Int} {sealed : Bool} {l l' : List SV} : noSees 3 [Proofs.Ytnefllaeleihcaa.memB n f, arB 0 base pages taken sealed, spB 1 root, .ro l] [Proofs.Ytnefllaeleihcaa.memB n f', arB 0 base pages taken' sealed, spB 1 root, .ro l'] := fun j k hj hk => by
  match j, hk with
  | 0, hk => simp only [List.getElem?_cons_zero, Option.some.injEq] at hk; subst hk; exact .inl (noSee_memB' _ _)
  | 1, hk => simp at hk; subst hk; exact .inl (.cells _ _)
  | 2, hk => simp at hk; subst hk; exact .inl (.cells _ _)
  | 3, _ => exact absurd rfl hj
  | (j + 4), hk => simp at hk
end Go.Proofs.Ytnefllaeleihcaa
end

/-
  TablesMany: the walk of the spaces' loop.
-/
section
namespace Go.Proofs.Ytnefllaeleihcaa
open Go Go.Vex
set_option maxRecDepth 20000
set_option maxHeartbeats 4000000
noncomputable def O7c : Opt := ⟨[1000033], 0⟩
theorem many_spaces (n : Nat) (nn : Int) (hnn : nn = n) (st fa far sp cn : Int) (hn : n ≤ 300) (hn1 : 1 ≤ n) (hs : 1 ≤ st ∧ st ≤ 3) (hfar : -9223372036854775808 ≤ far ∧ far < 9223372036854775808) (hfa : fa = pickP far 300) (hsp : -9223372036854775808 ≤ sp ∧ sp < 9223372036854775808) (hcn : cn = pickP sp 40)
    (V0 PH0 G0 P0 : List Int) (hcols : ColsOk V0 PH0 G0 P0 n)
    (A : Option (Nat × Nat) → Vex.Own → World → Prop) {K : Bool → SV → List Blk → Prop} (hK : ∀ q v hp', leV v (.b (.lit true)) → (∃ x : Nat, hp'[x]? = some (.abs A)) → K q v hp') :
    Ok kit 274 1 c7a false ⟨[(0, .i .i64 (.ex sp)), (3, .i .i64 (.ex far)), (10, .p 1 (.at 0)), (11, .p 2 (.at 0)), (12, .i .i64 (.ex nn)), (13, .i .i64 (.ex st)), (14, .slc 3 0 1 (.lit 0) (.lit 4) (.lit 4)), (15, .slc 5 0 1 (.lit 0) (.ex 0) (.ex 0)), (16, .slc 4 0 4 (.lit 0) (.ex n) (.ex n))],
      [.abs A, memB 700 (fun _ => 0), arB 1 1228800 400 0 false, .ro [.ints .u8 (.ex 4) [1, 3, 4, 5]], .cells 31 [.rows 4 (.ex n) (rngF V0 PH0 G0 P0)], .cells 27 [.ints .u32 (.ex 0) [], .junk 1 (.ex 0)]]⟩ (endS tab (fi Try.f7 O7).res K) := by
  have hcnb := pickP_bd (c := sp) (n := 40) (by decide)
  rw [← hcn] at hcnb
  have hfab := pickP_bd (c := far) (n := 300) (by decide)
  rw [← hfa] at hfab
  refine kcode I7ok 6 O7c (by kernel_rfl) ?_
  conv => cbv
  refine OkLoop.gen fun Q1 hQ1 => ?_
  refine byInv I7ok 6 ⟨[], 0⟩ (fun a : Int × (Int → Int) × Int × (List Int × Nat × Nat × Nat) × (List Int × List Int × List Int × List Int) => ⟨[(17, .i .i64 (.ex a.1)), (0, .i .i64 (.ex sp)), (3, .i .i64 (.ex far)), (10, .p 1 (.at 0)), (11, .p 2 (.at 0)), (12, .i .i64 (.ex nn)), (13, .i .i64 (.ex st)), (14, .slc 3 0 1 (.lit 0) (.lit 4) (.lit 4)), (15, .slc 5 0 1 (.lit 0) (.ex a.2.2.2.1.2.1) (.ex a.2.2.2.1.2.2.1)), (16, .slc 4 0 4 (.lit 0) (.ex n) (.ex n))],
      [.abs A, memB 700 a.2.1, arB 1 1228800 400 a.2.2.1 false, .ro [.ints .u8 (.ex 4) [1, 3, 4, 5]], .cells 31 [.rows 4 (.ex n) (rngF a.2.2.2.2.1 a.2.2.2.2.2.1 a.2.2.2.2.2.2.1 a.2.2.2.2.2.2.2)], .cells 27 [.ints .u32 (.ex a.2.2.2.1.2.1) a.2.2.2.1.1, .junk 1 (.ex a.2.2.2.1.2.2.2)]]⟩)
    (fun a => (cn + 1 - a.1).toNat) (fun a => 0 ≤ a.1 ∧ a.1 ≤ cn + 1 ∧ (a.2.2.2.1.2.1 : Int) = a.1 ∧ MnInv n st fa a.2.1 a.2.2.2.1.1 a.2.2.2.1.2.1 a.2.2.1 ∧ a.2.2.2.1.2.1 ≤ a.2.2.2.1.2.2.1 ∧ a.2.2.2.1.2.2.1 - a.2.2.2.1.2.1 = a.2.2.2.1.2.2.2 ∧ ColsOk a.2.2.2.2.1 a.2.2.2.2.2.1 a.2.2.2.2.2.2.1 a.2.2.2.2.2.2.2 n) false (0, (fun _ => 0), 0, ([], 0, 0, 0), (V0, PH0, G0, P0)) (by kernel_rfl) ⟨by omega, by omega, rfl, MnInv.zero n st fa, Nat.le_refl 0, rfl, hcols⟩ (LeSt.mk' [0, 1, 2, 3, 4, 5] (by decide) (by rfl) (by decide) (by cbv) ?_) ?_
  · conv => cbv
    exact ⟨⟨fun j _ => rngF_le _ _, trivial⟩, trivial⟩
  rintro ⟨z, f, tk, ⟨RL, r, cap, jc⟩, ⟨V, PH, G, P⟩⟩ ⟨hz0, hz1, hrz, hinv, hcap, hjc, hco⟩
  simp only at hz0 hz1 hrz hinv hcap hjc hco
  obtain ⟨z1, hz1'⟩ : ∃ x, z + 1 = x := ⟨_, rfl⟩
  conv => cbv
  refine OkCall.by_spec (pick_spec sp 40 (by omega) (by omega) hcn) [] (by decide) (by cbv) (by cbv) ?_
  conv => cbv
  refine Br.mk (fun hc => ?_) (fun hc => ?_)
  · have hc : z < cn + 1 := by have h : z < addI .i64 1 cn := ltI_t.1 hc; rw [addI_eq, IntWalk.i64_in _ (by omega)] at h; omega
    conv => cbv
    have htk : tk = if r = 0 then 0 else 2 * (r : Int) + 1 := hinv.htk
    have htk0 : 0 ≤ tk ∧ tk < 90 := by split at htk <;> omega
    obtain ⟨R, hR⟩ : ∃ x, x = 1228800 + 4096 * tk := ⟨_, rfl⟩
    obtain ⟨tk1, htk1⟩ : ∃ x, x = tk + 1 := ⟨_, rfl⟩
    obtain ⟨f1, hf1⟩ : ∃ x, x = zeroF f R := ⟨_, rfl⟩
    have hf1ok : MemOk f1 := by rw [hf1]; exact zeroF_ok hinv.ok _
    refine OkCall.by_spec (tnew_ok 700 1228800 400 tk f (arOk7 ⟨by omega, by omega⟩) (by omega) (at_ := R) (tk := tk1) hR htk1) [1, 2] (by decide) (by cbv) (by cbv) ?_
    rw [← hf1]
    conv => cbv
    refine OkLoop.gen fun Q2 hQ2 => ?_
    refine byInv I7ok 6 ⟨[], 0⟩ (fun a : Int × (List Int × List Int × List Int × List Int) => ⟨[(20, .i .i64 (.ex a.1)), (18, .p 6 (.at 0)), (17, .i .i64 (.ex z)), (0, .i .i64 (.ex sp)), (3, .i .i64 (.ex far)), (10, .p 1 (.at 0)), (11, .p 2 (.at 0)), (12, .i .i64 (.ex nn)), (13, .i .i64 (.ex st)), (14, .slc 3 0 1 (.lit 0) (.lit 4) (.lit 4)), (15, .slc 5 0 1 (.lit 0) (.ex r) (.ex cap)), (16, .slc 4 0 4 (.lit 0) (.ex n) (.ex n))],
      [.abs A, memB 700 f1, arB 1 1228800 400 tk1 false, .ro [.ints .u8 (.ex 4) [1, 3, 4, 5]], .cells 31 [.rows 4 (.ex n) (rngF a.2.1 a.2.2.1 a.2.2.2.1 a.2.2.2.2)], .cells 27 [.ints .u32 (.ex r) RL, .junk 1 (.ex jc)], spB 2 R]⟩)
      (fun a => (n - a.1).toNat) (fun a => 0 ≤ a.1 ∧ a.1 ≤ n ∧ FillOk n st fa z a.1 a.2.1 a.2.2.1 a.2.2.2.1 a.2.2.2.2) false (0, (V, PH, G, P)) (by kernel_rfl) ⟨by omega, by omega, hco, fun j (hj : (j : Int) < 0) => by omega⟩ (LeSt.mk' [0, 1, 2, 3, 4, 5, 8] (by decide) (by rfl) (by decide) (by cbv) ?_) ?_
    · conv => cbv
      exact ⟨⟨fun j _ => rngF_le _ _, trivial⟩, trivial⟩
    rintro ⟨k, ⟨V, PH, G, P⟩⟩ ⟨hk0, hk1, hfl⟩
    simp only at hk0 hk1 hfl
    obtain ⟨k1, hk1'⟩ : ∃ x, k + 1 = x := ⟨_, rfl⟩
    obtain ⟨a, ha⟩ : ∃ x : Nat, x = k.toNat := ⟨_, rfl⟩
    obtain ⟨x, hx⟩ : ∃ x, x = 4096 * (k * st) := ⟨_, rfl⟩
    obtain ⟨y, hy⟩ : ∃ x, x = 4096 * mnQ fa z a := ⟨_, rfl⟩
    obtain ⟨p, hp⟩ : ∃ x, x = mnP z a := ⟨_, rfl⟩
    obtain ⟨V2, hV2⟩ : ∃ w, w = V.set a x := ⟨_, rfl⟩
    obtain ⟨PH2, hPH2⟩ : ∃ w, w = PH.set a y := ⟨_, rfl⟩
    obtain ⟨G2, hG2⟩ : ∃ w, w = G.set a 1 := ⟨_, rfl⟩
    obtain ⟨P2, hP2⟩ : ∃ w, w = P.set a p := ⟨_, rfl⟩
    conv => cbv
    refine Br.mk (fun hd => ?_) (fun hd => ?_)
    · have hd : k < (n : Int) := by have h : k < nn := ltI_t.1 hd; rw [hnn] at h; exact h
      conv => cbv
      refine QCall.of_call (.i .i64 (.ex fa)) rfl (OkCall.by_spec (pick_spec far 300 (by omega) (by omega) hfa) [] (by decide) (by cbv) (by cbv) ?_) ?_
      · conv => cbv
        trivial
      have hrem : remI (addI .i64 k z) 4 = (k + z) % 4 := by rw [addI_eq, IntWalk.i64_in _ (by omega), remI_eq, Int.tmod_eq_emod_of_nonneg (by omega)]
      have hir : inR (remI (addI .i64 k z) 4) 4 := inR.mk (by rw [hrem]; omega) (by rw [hrem]; omega)
      have hil : nLt (toN (remI (addI .i64 k z) 4)) 4 := nLt.mk (by rw [toN_eq, hrem]; omega)
      have hkm : inR k n := inR.mk hk0 hd
      have hkl : nLt (toN k) n := nLt.mk (by rw [toN_eq]; omega)
      conv => cbv
      have hmul := mn_mul (k := a) hn (by omega) hs
      have hak : (a : Int) = k := by omega
      rw [hak] at hmul
      have hfl2 : FillOk n st fa z k1 V2 PH2 G2 P2 := by rw [hV2, hPH2, hG2, hP2]; exact hfl.set ⟨hk0, hd⟩ hk1'.symm hn hs hz0 ha hx hy rfl hp
      have hat : convI .u32 (mulI .i64 (mulI .i64 4096 k) st) = x := by
        have e : 4096 * k * st = 4096 * (k * st) := Int.mul_assoc _ _ _
        rw [mulI_eq, mulI_eq, IntWalk.i64_in (4096 * k) (by omega), e, IntWalk.i64_in _ (by omega), convI_eq, wrap_u32, hx]; omega
      have hfrm : convI .u32 (mulI .i64 4096 (remI (addI .i64 (addI .i64 (mulI .i64 7 k) z) fa) 300)) = y := by
        rw [mulI_eq, mulI_eq, addI_eq, addI_eq, IntWalk.i64_in (7 * k) (by omega), IntWalk.i64_in (7 * k + z) (by omega), IntWalk.i64_in (7 * k + z + fa) (by omega), remI_eq, Int.tmod_eq_emod_of_nonneg (by omega), IntWalk.i64_in _ (by omega), convI_eq, wrap_u32, hy, mnQ, hak]; omega
      have hperm : gi [1, 3, 4, 5] (toN (remI (addI .i64 k z) 4)) = p := by rw [gi_eq, toN_eq, hrem, hp, mnP, hak]
      refine ⟨hir, hil, hkm, hkl, (k1, (V2, PH2, G2, P2)), ⟨⟨by show 0 ≤ k1; omega, by show k1 ≤ (n : Int); omega, hfl2⟩, by show ((n : Int) - k1).toNat < ((n : Int) - k).toNat; omega⟩, _, (HImp.refl _).ext, LeSt.mk' [0, 1, 2, 3, 4, 5, 6] (by decide) (by rfl) (by decide) ?_ ?_⟩
      · conv => cbv
        refine ⟨?_, trivial⟩
        show k1 = addI .i64 k 1
        rw [addI_eq, IntWalk.i64_in _ (by omega), hk1']
      · conv => cbv
        exact ⟨⟨fun j hj => upd_rng3 (s1 := .ex _) (s2 := .ex _) (s3 := .lit _) (s4 := .ex _) hfl.cols _ a (by show toN k = a; rw [toN_eq, ha]) (by omega) hV2 hPH2 hG2 hP2 hat hfrm rfl hperm _ j hj, trivial⟩, trivial⟩
    · have hd : (n : Int) ≤ k := by have h : nn ≤ k := ltI_f.1 hd; rw [hnn] at h; exact h
      have hkn : k = n := by omega
      subst hkn
      have hfull := hfl.full
      conv => cbv
      subst hQ2
      conv => cbv
      have hmap := mn_map (n := n) (st := st) (fa := fa) (i := z) (tk := tk1) (R := R) (f := f1) (tb := fun _ => none) hn hn1 hs hz0 (by
        have h := SpAt.new (n := 700) (t := R) (f := f) ⟨by omega, by omega, by omega⟩
        rw [← hf1] at h
        rw [show 1228800 + 4096 * tk1 = R + 4096 by omega]; exact h) ⟨by omega, by omega⟩
      have hneed := mn_need (n := n) (st := st) (fa := fa) (i := z) hn hn1 hs hz0
      rw [← hfull] at hmap hneed
      obtain ⟨f2, tb2, hm2, hsp2, hke2⟩ := hmap
      obtain ⟨tk2, htk2⟩ : ∃ x, x = tk1 + 1 := ⟨_, rfl⟩
      rw [← htk2] at hm2 hsp2
      have hf2ok : MemOk f2 := by have := mapP_ok (n := 700) (base := 1228800) (pages := 400) (taken := tk1) (root := R) (sealed := false) (L := ⟨V, PH, G, P⟩) (m := n) hf1ok; rw [hm2] at this; exact this
      have hLok : RgsOk ⟨V, PH, G, P⟩ n := hfl.cols.ok (by omega)
      refine OkCall.by_spec (Spec1.lend (need_spec V PH G P n n hLok hneed.symm) 0 31 [.rows 4 (.ex n) (rngF V PH G P)] rfl rfl (Pre.all (leL_refl _)) ns1 nsn) [4] (by decide) ?_ ?_ ?_
      · conv => cbv
        trivial
      · conv => cbv
        exact ⟨⟨fun j _ => rngF_le _ _, trivial⟩, trivial⟩
      conv => cbv
      refine Br.no (neI_f.2 rfl) ?_
      conv => cbv
      refine OkCall.by_spec (Spec1.lend (map_spec 700 1228800 400 tk1 R false f1 V PH G P n n hLok (by decide) hf1ok ⟨by omega, by omega⟩ (arOk7 ⟨by omega, by omega⟩) hm2.symm) 3 31 [.rows 4 (.ex n) (rngF V PH G P)] rfl rfl (Pre.all (leL_refl _)) ns3' nsn) [1, 2, 6, 4] (by decide) (by cbv) ?_ ?_
      · conv => cbv
        exact ⟨⟨fun j _ => rngF_le _ _, trivial⟩, trivial⟩
      conv => cbv
      refine Br.no (neI_f.2 rfl) ?_
      conv => cbv
      obtain ⟨r1, hr1⟩ : ∃ x, x = r + 1 := ⟨_, rfl⟩
      obtain ⟨RL1, hRL1⟩ : ∃ x, x = RL ++ [R] := ⟨_, rfl⟩
      refine ⟨by show eqN r r; rw [eqN_eq], by show eqN (addN r jc) cap; rw [eqN_eq, addN_eq]; omega, by show apOk (addN r 1) 4; rw [apOk_eq, addN_eq]; omega, AllN.mk fun cap2 hcap2 => ?_⟩
      have hcap2 : r1 ≤ cap2 := by have h : addN r 1 ≤ cap2 := hcap2; rw [addN_eq] at h; omega
      obtain ⟨jc2, hjc2⟩ : ∃ x, cap2 - r1 = x := ⟨_, rfl⟩
      conv => cbv
      refine Br.mk (fun h1 => ?_) (fun h1 => ?_)
      · have h1 : 0 < z := ltI_t.1 h1
        conv => cbv
        have hinv2 : MnInv n st fa f2 RL1 r1 tk2 := hinv.snoc hR (fun _ a ha h => by rw [hke2 a ha h, hf1]; exact zero_keep (by omega) ha h) hf2ok (by rw [if_neg (by omega)] at htk; omega) (by
          rw [if_neg (by omega), hrz]; simpa [sgE] using hsp2) hr1 hRL1
        refine ⟨(z1, f2, tk2, (RL1, r1, cap2, jc2), (V, PH, G, P)), ⟨⟨by show 0 ≤ z1; omega, by show z1 ≤ cn + 1; omega, by show (r1 : Int) = z1; omega, hinv2, hcap2, hjc2, hfl.cols⟩, by show (cn + 1 - z1).toNat < (cn + 1 - z).toNat; omega⟩, _, (HImp.refl _).ext, LeSt.mk' [0, 1, 2, 3, 4, 10] (by decide) (by rfl) (by decide) ?_ ?_⟩
        · conv => cbv
          refine ⟨?_, ⟨?_, trivial⟩, trivial⟩
          · show z1 = addI .i64 z 1
            rw [addI_eq, IntWalk.i64_in _ (by omega), hz1']
          · show r1 = addN r 1
            rw [addN_eq, hr1]
        · conv => cbv
          refine ⟨⟨fun j _ => rngF_le _ _, trivial⟩, ⟨⟨?_, ?_⟩, ?_, trivial⟩, trivial⟩
          · show r1 = addN r 1
            rw [addN_eq, hr1]
          · show RL1 = appI RL [R]
            rw [appI_eq, hRL1]
          · show jc2 = subN cap2 (addN r 1)
            rw [subN_eq, addN_eq, ← hjc2, hr1]
      · have h1 : z ≤ 0 := ltI_f.1 h1
        have hz : z = 0 := by omega
        have hr0 : r = 0 := by omega
        have htk2' : tk2 = 2 := by rw [if_pos hr0] at htk; omega
        conv => cbv
        refine OkLoop.gen fun Q3 hQ3 => ?_
        refine byInv I7ok 6 ⟨[], 0⟩ (fun a : Int × (Int → Int) × Int => ⟨[(22, .i .i64 (.ex a.1)), (18, .p 6 (.at 0)), (17, .i .i64 (.ex z)), (0, .i .i64 (.ex sp)), (3, .i .i64 (.ex far)), (10, .p 1 (.at 0)), (11, .p 2 (.at 0)), (12, .i .i64 (.ex nn)), (13, .i .i64 (.ex st)), (14, .slc 3 0 1 (.lit 0) (.lit 4) (.lit 4)), (15, .slc 5 0 1 (.lit 0) (.ex r1) (.ex cap2)), (16, .slc 4 0 4 (.lit 0) (.ex n) (.ex n))],
          [.abs A, memB 700 a.2.1, arB 1 1228800 400 a.2.2 false, .ro [.ints .u8 (.ex 4) [1, 3, 4, 5]], .cells 31 [.rows 4 (.ex n) (rngF V PH G P)], .cells 27 [.ints .u32 (.ex r1) RL1, .junk 1 (.ex jc2)], spB 2 R]⟩)
          (fun a => (150 - a.1).toNat) (fun a => 0 ≤ a.1 ∧ a.1 ≤ 150 ∧ MemOk a.2.1 ∧ (a.2.2 = if a.1 = 0 then 2 else 3) ∧ ∃ tb, SpAt 700 a.2.1 R (1228800 + 4096 * a.2.2) R (mnE n st fa 0 ++ sgE a.1.toNat) tb) false (0, f2, tk2) (by kernel_rfl) ⟨by omega, by omega, hf2ok, htk2', tb2, by rw [hz] at hsp2; simpa [sgE] using hsp2⟩ (LeSt.mk' [0, 1, 2, 3, 4, 10, 6] (by decide) (by rfl) (by decide) ?_ ?_) ?_
        · conv => cbv
          refine ⟨⟨?_, trivial⟩, trivial⟩
          show r1 = addN r 1
          rw [addN_eq, hr1]
        · conv => cbv
          refine ⟨⟨fun j _ => rngF_le _ _, trivial⟩, ⟨⟨?_, ?_⟩, ?_, trivial⟩, trivial⟩
          · show r1 = addN r 1
            rw [addN_eq, hr1]
          · show RL1 = appI RL [R]
            rw [appI_eq, hRL1]
          · show jc2 = subN cap2 (addN r 1)
            rw [subN_eq, addN_eq, ← hjc2, hr1]
        rintro ⟨c, f3, tk3⟩ ⟨hc0, hc1, hf3ok, htk3, tb3, hsp3⟩
        simp only at hc0 hc1 hf3ok htk3 hsp3
        obtain ⟨c1, hc1'⟩ : ∃ x, c + 1 = x := ⟨_, rfl⟩
        obtain ⟨va, hva⟩ : ∃ x, x = 4096 * (2048 + c) := ⟨_, rfl⟩
        obtain ⟨pa, hpa⟩ : ∃ x, x = 4096 * c := ⟨_, rfl⟩
        obtain ⟨VL, hVL⟩ : ∃ x, x = [va] := ⟨_, rfl⟩
        obtain ⟨PL, hPL⟩ : ∃ x, x = [pa] := ⟨_, rfl⟩
        obtain ⟨OL, hOL⟩ : ∃ x : List Int, x = [1] := ⟨_, rfl⟩
        conv => cbv
        refine Br.mk (fun he => ?_) (fun he => ?_)
        · have he : c < 150 := ltI_t.1 he
          conv => cbv
          obtain ⟨d, hd2⟩ : ∃ x : Int, x = if c.toNat = 0 then 1 else 0 := ⟨_, rfl⟩
          obtain ⟨f4, tb4, hm4, hsp4, hke4⟩ := sg_map (c := c.toNat) hn hs (by omega) hsp3 ⟨by split at htk3 <;> omega, by split at htk3 <;> omega⟩ hd2
          obtain ⟨tk4, htk4⟩ : ∃ x, x = tk3 + d := ⟨_, rfl⟩
          rw [← htk4] at hm4 hsp4
          have hsg : (⟨VL, PL, OL, OL⟩ : Rgs) = sgL c.toNat := by rw [hVL, hPL, hOL, hva, hpa, sgL, show ((c.toNat : Nat) : Int) = c by omega]
          rw [← hsg] at hm4
          have hf4ok : MemOk f4 := by have := mapP_ok (n := 700) (base := 1228800) (pages := 400) (taken := tk3) (root := R) (sealed := false) (L := ⟨VL, PL, OL, OL⟩) (m := 1) hf3ok; rw [hm4] at this; exact this
          have hLs : RgsOk ⟨VL, PL, OL, OL⟩ 1 := by
            refine ColsOk.ok (n := 1) ⟨by rw [hVL]; rfl, by rw [hPL]; rfl, by rw [hOL]; rfl, by rw [hOL]; rfl, fun u hu => ?_, fun u hu => ?_, fun u hu => ?_, fun u hu => ?_⟩ (by decide)
            · rw [hVL, List.mem_singleton] at hu; omega
            · rw [hPL, List.mem_singleton] at hu; omega
            · rw [hOL, List.mem_singleton] at hu; omega
            · rw [hOL, List.mem_singleton] at hu; omega
          refine OkCall.pre ((HImp.toRows 7 4 1 (rngF VL PL OL OL) rfl rfl rfl ?_).trans (HImp.toRo 7 rfl)) ?_
          · intro j hj
            have : j = 0 := by omega
            subst this
            refine ⟨⟨rfl, ?_⟩, ⟨rfl, ?_⟩, ⟨rfl, ?_⟩, ⟨rfl, ?_⟩, trivial⟩
            · show gi VL 0 = convI .u32 (mulI .i64 4096 (addI .i64 2048 c))
              rw [gi_eq, hVL, addI_eq, IntWalk.i64_in _ (by omega), mulI_eq, IntWalk.i64_in _ (by omega), convI_eq, wrap_u32]; show va = _; omega
            · show gi PL 0 = convI .u32 (mulI .i64 4096 c)
              rw [gi_eq, hPL, mulI_eq, IntWalk.i64_in _ (by omega), convI_eq, wrap_u32]; show pa = _; omega
            · show gi OL 0 = 1
              rw [gi_eq, hOL]; rfl
            · show gi OL 0 = 1
              rw [gi_eq, hOL]; rfl
          conv => cbv
          refine OkCall.by_spec (map_spec 700 1228800 400 tk3 R false f3 VL PL OL OL 1 1 hLs (by decide) hf3ok ⟨by omega, by omega⟩ (arOk7 ⟨by split at htk3 <;> omega, by split at htk3 <;> omega⟩) hm4.symm) [1, 2, 6, 7] (by decide) (by cbv) ?_ ?_
          · conv => cbv
            exact ⟨⟨fun j _ => rngF_le _ _, trivial⟩, trivial⟩
          conv => cbv
          refine Br.no (neI_f.2 rfl) ?_
          conv => cbv
          refine ⟨(c1, f4, tk4), ⟨⟨by show 0 ≤ c1; omega, by show c1 ≤ 150; omega, hf4ok, ?_, tb4, ?_⟩, by show (150 - c1).toNat < (150 - c).toNat; omega⟩, _, (HImp.refl _).ext, LeSt.mk' [0, 1, 2, 3, 4, 5, 6] (by decide) (by rfl) (by decide) ?_ ?_⟩
          · show tk4 = if c1 = 0 then 2 else 3
            rw [if_neg (by omega), htk4, hd2]
            by_cases e : c = 0
            · rw [if_pos e] at htk3; rw [if_pos (by omega)]; omega
            · rw [if_neg e] at htk3; rw [if_neg (by omega)]; omega
          · show SpAt 700 f4 R (1228800 + 4096 * tk4) R (mnE n st fa 0 ++ sgE c1.toNat) tb4
            rw [show c1.toNat = c.toNat + 1 by omega]; exact hsp4
          · conv => cbv
            refine ⟨?_, trivial⟩
            show c1 = addI .i64 c 1
            rw [addI_eq, IntWalk.i64_in _ (by omega), hc1']
          · conv => cbv
            exact ⟨⟨fun j _ => rngF_le _ _, trivial⟩, trivial⟩
        · have he : 150 ≤ c := ltI_f.1 he
          have hc150 : c = 150 := by omega
          conv => cbv
          subst hQ3
          conv => cbv
          have hz1e : z1 = 1 := by omega
          rw [if_neg (by omega)] at htk3
          have hinv2 : MnInv n st fa f3 RL1 r1 tk3 := hinv.snoc (tb := tb3) hR (fun h => absurd hr0 h) hf3ok (by omega) (by
            rw [if_pos hr0, hr0]; rw [hc150] at hsp3; exact hsp3) hr1 hRL1
          refine ⟨(z1, f3, tk3, (RL1, r1, cap2, jc2), (V, PH, G, P)), ⟨⟨by show 0 ≤ z1; omega, by show z1 ≤ cn + 1; omega, by show (r1 : Int) = z1; omega, hinv2, hcap2, hjc2, hfl.cols⟩, by show (cn + 1 - z1).toNat < (cn + 1 - z).toNat; omega⟩, _, (HImp.refl _).ext, LeSt.mk' [0, 1, 2, 3, 4, 5] (by decide) (by rfl) (by decide) ?_ ?_⟩
          · conv => cbv
            refine ⟨?_, trivial⟩
            show z1 = addI .i64 z 1
            rw [addI_eq, IntWalk.i64_in _ (by omega), hz1']
          · conv => cbv
            exact ⟨⟨fun j _ => rngF_le _ _, trivial⟩, trivial⟩
  · have hc : cn + 1 ≤ z := by have h : addI .i64 1 cn ≤ z := ltI_f.1 hc; rw [addI_eq, IntWalk.i64_in _ (by omega)] at h; omega
    conv => cbv
    subst hQ1
    conv => cbv
    refine Ok.weak (LeSt.mk' [0, 1, 3, 5] (by decide) (by rfl) (by decide) (by cbv) (by cbv)) (many_looks n nn hnn st fa far f RL r cap jc hn hs hfar hfa hinv.ok hinv.len (by omega) hcap (fun j hj => ⟨hinv.u j hj (by omega), ?_⟩) A hK)
    obtain ⟨tb, h⟩ := hinv.sp j hj
    exact ⟨tb, h.sp⟩
end Go.Proofs.Ytnefllaeleihcaa
end

/-
  TablesMany: the walk.
-/
section
namespace Go.Proofs.Ytnefllaeleihcaa
open Go Go.Vex
set_option maxRecDepth 20000
set_option maxHeartbeats 4000000
theorem many_tail (sp mn sd far : Int) (hsp : -9223372036854775808 ≤ sp ∧ sp < 9223372036854775808) (hmn : -9223372036854775808 ≤ mn ∧ mn < 9223372036854775808) (hsd : -9223372036854775808 ≤ sd ∧ sd < 9223372036854775808) (hfar : -9223372036854775808 ≤ far ∧ far < 9223372036854775808)
    (A : Option (Nat × Nat) → Vex.Own → World → Prop) {K : Bool → SV → List Blk → Prop} (hK : ∀ q v hp', leV v (.b (.lit true)) → (∃ x : Nat, hp'[x]? = some (.abs A)) → K q v hp') :
    OkCall kit 7 [.i .i64 (.ex sp), .i .i64 (.ex mn), .i .i64 (.ex sd), .i .i64 (.ex far)] [.abs A] K := by
  obtain ⟨c1, hc1⟩ : ∃ x, x = pickP mn 300 := ⟨_, rfl⟩
  obtain ⟨c2, hc2⟩ : ∃ x, x = pickP sd 3 := ⟨_, rfl⟩
  obtain ⟨cn, hcn⟩ : ∃ x, x = pickP sp 40 := ⟨_, rfl⟩
  obtain ⟨fa, hfa⟩ : ∃ x, x = pickP far 300 := ⟨_, rfl⟩
  have hb1 := pickP_bd (c := mn) (n := 300) (by decide)
  have hb2 := pickP_bd (c := sd) (n := 3) (by decide)
  rw [← hc1] at hb1
  rw [← hc2] at hb2
  obtain ⟨n, hn⟩ : ∃ x : Nat, x = (c1 + 1).toNat := ⟨_, rfl⟩
  obtain ⟨nn, hnn⟩ : ∃ x : Int, x = n := ⟨_, rfl⟩
  obtain ⟨st, hst⟩ : ∃ x : Int, x = c2 + 1 := ⟨_, rfl⟩
  obtain ⟨Z, hZ⟩ : ∃ x : List Int, x = List.replicate n 0 := ⟨_, rfl⟩
  refine into I7ok 6 ?_
  conv => cbv
  refine OkCall.by_spec known_spec [] (by decide) (by cbv) trivial ?_
  conv => cbv
  refine OkCall.by_spec (fresh_spec 700 300 400 (by decide) (by decide) (by decide) (by decide) (bs := 1228800) (by decide)) [] (by decide) (by cbv) trivial ?_
  conv => cbv
  refine OkCall.by_spec (pick_spec mn 300 (by omega) (by omega) hc1) [] (by decide) (by cbv) (by cbv) ?_
  conv => cbv
  refine OkCall.by_spec (pick_spec sd 3 (by omega) (by omega) hc2) [] (by decide) (by cbv) (by cbv) ?_
  conv => cbv
  have hn1 : addI .i64 1 c1 = nn := by rw [addI_eq, IntWalk.i64_in _ (by omega), hnn, hn]; omega
  have hst1 : addI .i64 1 c2 = st := by rw [addI_eq, IntWalk.i64_in _ (by omega), hst]; omega
  have hnt : toN (addI .i64 1 c1) = n := by rw [hn1, toN_eq, hnn]; omega
  refine ⟨by show mkOk (addI .i64 1 c1) (addI .i64 1 c1) 24; rw [mkOk_eq, hn1]; omega, ?_⟩
  refine Ok.nilSlot 15 0 1 (.cells 27 [.ints .u32 (.ex 0) [], .junk 1 (.ex 0)]) (by decide) rfl (fun ρ w => ⟨[], .cons [] [] rfl (.ints rfl rfl) (.cons [] [] rfl (.junk (by simp) (by simp)) (.nil rfl)), .inl ⟨rfl, rfl, rfl⟩⟩) ?_
  refine Ok.pre (HImp.toInts 7 4 [.lit 1, .lit 3, .lit 4, .lit 5] rfl rfl) ?_
  refine Ok.weak (LeSt.mk' [0, 3, 4, 7, 8, 9] (by decide) (by rfl) (by decide) ?_ ?_) (many_spaces n nn hnn st fa far sp cn (by omega) (by omega) (by omega) hfar hfa hsp hcn Z Z Z Z ⟨by rw [hZ, List.length_replicate], by rw [hZ, List.length_replicate], by rw [hZ, List.length_replicate], by rw [hZ, List.length_replicate], fun u hu => ?_, fun u hu => ?_, fun u hu => ?_, fun u hu => ?_⟩ A hK)
  · conv => cbv
    exact ⟨hn1.symm, hst1.symm, ⟨hnt.symm, hnt.symm⟩, trivial⟩
  · conv => cbv
    refine ⟨⟨⟨hnt.symm, fun j hj => ?_⟩, trivial⟩, trivial⟩
    have hj : j < toN (addI .i64 1 c1) := hj
    rw [hnt] at hj
    refine ⟨⟨rfl, ?_⟩, ⟨rfl, ?_⟩, ⟨rfl, ?_⟩, ⟨rfl, ?_⟩, trivial⟩ <;> (show gi Z j = 0; rw [gi_eq, hZ, List.getD_eq_getElem?_getD, List.getElem?_replicate, if_pos hj]; rfl)
  all_goals (rw [hZ] at hu; rw [List.eq_of_mem_replicate hu]; decide)
theorem many_walk : opnArgs tab 9 [3, 3, 3, 3] 0 (lawK2 7) := by
  conv => cbv
  intro sp hsp
  conv => cbv
  intro mn hmn
  conv => cbv
  intro sd hsd
  conv => cbv
  intro far hfar
  conv => cbv
  intro A
  exact many_tail sp mn sd far (inK_i64 hsp) (inK_i64 hmn) (inK_i64 hsd) (inK_i64 hfar) A fun q v hp' h1 h2 => ⟨h1, h2⟩
end Go.Proofs.Ytnefllaeleihcaa
end
