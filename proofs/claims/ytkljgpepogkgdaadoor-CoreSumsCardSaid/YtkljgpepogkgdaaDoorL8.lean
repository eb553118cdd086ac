/-
  CoreSums: the walk.
-/
import Derived.Test.YtkljgpepogkgdaaDoorLW
import Derived.Test.YtkljgpepogkgdaaDoorP8
set_option linter.unusedVariables false
set_option linter.unusedSimpArgs false
namespace Go.Proofs.YtkljgpepogkgdaaDoor
open Go Go.Vex
set_option maxRecDepth 20000
set_option maxHeartbeats 4000000
noncomputable def I18 : FnT := [(18, fi Tryd.f18 ⟨[], 0⟩), (20, fi Tryd.f20 ⟨[], 0⟩)]
theorem I18ok : FnsOk kit I18 := ⟨fo18 _, fo20 _, trivial⟩
abbrev DoesIs (k : Int) (a b z : Int) : Prop := Spec1 kit 18 [.i .i64 (.lit k), .i .u32 (.ex a), .i .u32 (.ex b)] [.glob 0 layoutsL] false (.tup [.i .u32 (.ex z), .b (.lit true)]) [.glob 0 layoutsL] []
theorem does_gen {k W : Int} {a b z : Int} (hw : WordIs k W) (hW : U32 W) (ha : U32 a) (hb : U32 b) (bd : BoardS) (hst : stepF (sumR a b) (sumB W) = ⟨resOk 0, ⟨[0, z, a, b, 0, 0, 0, 0, 0, 0, 0, 0, 0, 0, 0, 0], 4, 0, 0, false, false⟩, bd⟩) : DoesIs k a b z := by
  refine Spec1.mk2 rfl fun F => ?_
  refine into I18ok 6 ?_
  conv => cbv
  refine OkCall.by_spec hw [0] (by decide) (by cbv) (by cbv) ?_
  conv => cbv
  refine OkCall.ext (HImp.toInts (k := .u32) 4 1 [.lit W] rfl rfl).ext ?_
  refine OkCall.ext (HExt.nilFill 5 1 0 1 nilU rfl rfl nilU_ok) ?_
  refine OkCall.ext (HExt.nilFill 5 2 0 1 nilI rfl rfl nilI_ok) ?_
  refine OkCall.ext (HExt.nilFill 5 3 0 1 nilI rfl rfl nilI_ok) ?_
  refine OkCall.ext (HExt.nilFill 5 7 0 4 emptyRows rfl rfl emptyRows_ok) ?_
  refine OkCall.ext (HImp.fold (S := boardSh ⟨[W], [], [], [], 0, -1, false, [], [], [], [], 0, 0, 0, 0⟩) 5 [4, 6, 7, 8, 9] (boardL ⟨[W], [], [], [], 0, -1, false, [], [], [], [], 0, 0, 0, 0⟩ 1 0 0 0 0 1 0 0 0 0) (by decide) ?_ ⟨1, 0, 0, 0, 0, 1, 0, 0, 0, 0, ⟨rfl, rfl, rfl, rfl, rfl, rfl, rfl, rfl, Nat.le_refl _⟩, rfl⟩).ext ?_
  · conv => cbv
    exact ⟨⟨fun j _ => by cbv, by simp only [leafs], trivial⟩, trivial⟩
  refine OkCall.by_spec (copied_spec ⟨[W], [], [], [], 0, -1, false, [], [], [], [], 0, 0, 0, 0⟩ ⟨by simp, by simp, by simp, by simp, by simp⟩) [5] (by decide) (by cbv) (by cbv) ?_
  conv => cbv
  have hsp := step_spec (sumR a b) (sumB W) ⟨rfl, fun x hx => by
      simp only [sumR, List.mem_cons, List.not_mem_nil, or_false] at hx
      rcases hx with rfl | rfl | rfl | rfl | rfl | rfl | rfl | rfl | rfl | rfl | rfl | rfl | rfl | rfl | rfl | rfl <;> first | exact U0 | exact ha | exact hb, U0, U0, U0⟩
    (bdw0 (by simp) (by intro z hz; simp at hz; subst hz; exact hW) ⟨by decide, by decide⟩) _ hst
  unfold sumR sumB at hsp
  refine OkCall.by_spec hsp [2, 11, 0] (by decide) (by cbv) ?_ ?_
  · conv => cbv
    simp only [leafs]
    exact ⟨⟨rfl, trivial⟩, trivial⟩
  conv => cbv
  refine LeOut.two (LeOut.mk' [0, 1] (by decide) rfl (by decide) ?_ (by cbv))
  conv => cbv
  simp only [leafs]
  exact ⟨rfl, rfl, trivial⟩
theorem does_1 {a b : Int} (ha : U32 a) (hb : U32 b) : DoesIs 1 a b (sumF 1 a b) := does_gen word_1 ⟨by decide, by decide⟩ ha hb _ (st_1 a b)
theorem does_2 {a b : Int} (ha : U32 a) (hb : U32 b) : DoesIs 2 a b (sumF 2 a b) := does_gen word_2 ⟨by decide, by decide⟩ ha hb _ (st_2 a b)
theorem does_3 {a b : Int} (ha : U32 a) (hb : U32 b) : DoesIs 3 a b (sumF 3 a b) := does_gen word_3 ⟨by decide, by decide⟩ ha hb _ (st_3 a b)
theorem does_4 {a b : Int} (ha : U32 a) (hb : U32 b) : DoesIs 4 a b (sumF 4 a b) := does_gen word_4 ⟨by decide, by decide⟩ ha hb _ (st_4 a b)
theorem does_5 {a b : Int} (ha : U32 a) (hb : U32 b) : DoesIs 5 a b (sumF 5 a b) := does_gen word_5 ⟨by decide, by decide⟩ ha hb _ (st_5 a b)
theorem does_6 {a b : Int} (ha : U32 a) (hb : U32 b) : DoesIs 6 a b (sumF 6 a b) := does_gen word_6 ⟨by decide, by decide⟩ ha hb _ (st_6 a b)
theorem does_7 {a b : Int} (ha : U32 a) (hb : U32 b) : DoesIs 7 a b (sumF 7 a b) := does_gen word_7 ⟨by decide, by decide⟩ ha hb _ (st_7 a b)
theorem does_8 {a b : Int} (ha : U32 a) (hb : U32 b) : DoesIs 8 a b (sumF 8 a b) := does_gen word_8 ⟨by decide, by decide⟩ ha hb _ (st_8 a b)
theorem does_9 {a b : Int} (ha : U32 a) (hb : U32 b) : DoesIs 9 a b (sumF 9 a b) := does_gen word_9 ⟨by decide, by decide⟩ ha hb _ (st_9 a b)
theorem does_10 {a b : Int} (ha : U32 a) (hb : U32 b) : DoesIs 10 a b (sumF 10 a b) := does_gen word_10 ⟨by decide, by decide⟩ ha hb _ (st_10 a b)
theorem does_11 {a b : Int} (ha : U32 a) (hb : U32 b) : DoesIs 11 a b (sumF 11 a b) := does_gen word_11 ⟨by decide, by decide⟩ ha hb _ (st_11 a b)
theorem does_12 {a b : Int} (ha : U32 a) (hb : U32 b) : DoesIs 12 a b (sumF 12 a b) := does_gen word_12 ⟨by decide, by decide⟩ ha hb _ (st_12 a b)
theorem does_13 {a b : Int} (ha : U32 a) (hb : U32 b) : DoesIs 13 a b (sumF 13 a b) := does_gen word_13 ⟨by decide, by decide⟩ ha hb _ (st_13 a b)
noncomputable def I8 : FnT := [(8, fi Tryd.f8 ⟨[], 0⟩)]
theorem I8ok : FnsOk kit I8 := ⟨fo8 _, trivial⟩
theorem sums_walk : opnArgs tab 9 [22, 22, 22] 1 (lawK 8 [.glob 0 layoutsL]) := by
  conv => cbv
  intro a ha0
  conv => cbv
  intro b hb0
  conv => cbv
  intro by_ hby0
  conv => cbv
  intro A
  have ha := inK_u32 ha0
  have hb := inK_u32 hb0
  have hby_ := inK_u32 hby0
  obtain ⟨t, ht⟩ : ∃ x, subI .u32 (addI .u32 by_ 31) (mulI .u32 2 (remI by_ 32)) = x := ⟨_, rfl⟩
  have htU : U32 t := by rw [← ht, subI_eq, wrap_u32]; exact ⟨by omega, by omega⟩
  have h0 : U32 0 := U0
  obtain ⟨sum, esum⟩ : ∃ u_, sumF 1 a b = u_ := ⟨_, rfl⟩
  have hsum : U32 sum := esum ▸ sum_U ha hb
  have dsum := does_1 ha hb
  rw [esum] at dsum
  obtain ⟨back, eback⟩ : ∃ u_, sumF 2 sum b = u_ := ⟨_, rfl⟩
  have hback : U32 back := eback ▸ sum_U hsum hb
  have dback := does_2 hsum hb
  rw [eback] at dback
  obtain ⟨q, eq⟩ : ∃ u_, sumF 4 a b = u_ := ⟨_, rfl⟩
  have hq : U32 q := eq ▸ sum_U ha hb
  have dq := does_4 ha hb
  rw [eq] at dq
  obtain ⟨m, em⟩ : ∃ u_, sumF 5 a b = u_ := ⟨_, rfl⟩
  have hm : U32 m := em ▸ sum_U ha hb
  have dm := does_5 ha hb
  rw [em] at dm
  obtain ⟨p, ep⟩ : ∃ u_, sumF 3 q b = u_ := ⟨_, rfl⟩
  have hp : U32 p := ep ▸ sum_U hq hb
  have dp := does_3 hq hb
  rw [ep] at dp
  obtain ⟨all, eall⟩ : ∃ u_, sumF 1 p m = u_ := ⟨_, rfl⟩
  have hall : U32 all := eall ▸ sum_U hp hm
  have dall := does_1 hp hm
  rw [eall] at dall
  obtain ⟨less, eless⟩ : ∃ u_, sumF 13 a b = u_ := ⟨_, rfl⟩
  have hless : U32 less := eless ▸ sum_U ha hb
  have dless := does_13 ha hb
  rw [eless] at dless
  obtain ⟨more, emore⟩ : ∃ u_, sumF 13 b a = u_ := ⟨_, rfl⟩
  have hmore : U32 more := emore ▸ sum_U hb ha
  have dmore := does_13 hb ha
  rw [emore] at dmore
  obtain ⟨x, ex⟩ : ∃ u_, sumF 8 a b = u_ := ⟨_, rfl⟩
  have hx : U32 x := ex ▸ sum_U ha hb
  have dx := does_8 ha hb
  rw [ex] at dx
  obtain ⟨y, ey⟩ : ∃ u_, sumF 8 x b = u_ := ⟨_, rfl⟩
  have hy : U32 y := ey ▸ sum_U hx hb
  have dy := does_8 hx hb
  rw [ey] at dy
  obtain ⟨and_, eand_⟩ : ∃ u_, sumF 6 a b = u_ := ⟨_, rfl⟩
  have hand_ : U32 and_ := eand_ ▸ sum_U ha hb
  have dand_ := does_6 ha hb
  rw [eand_] at dand_
  obtain ⟨or_, eor_⟩ : ∃ u_, sumF 7 a b = u_ := ⟨_, rfl⟩
  have hor_ : U32 or_ := eor_ ▸ sum_U ha hb
  have dor_ := does_7 ha hb
  rw [eor_] at dor_
  obtain ⟨two, etwo⟩ : ∃ u_, sumF 1 and_ or_ = u_ := ⟨_, rfl⟩
  have htwo : U32 two := etwo ▸ sum_U hand_ hor_
  have dtwo := does_1 hand_ hor_
  rw [etwo] at dtwo
  obtain ⟨up, eup⟩ : ∃ u_, sumF 9 a by_ = u_ := ⟨_, rfl⟩
  have hup : U32 up := eup ▸ sum_U ha hby_
  have dup := does_9 ha hby_
  rw [eup] at dup
  obtain ⟨down, edown⟩ : ∃ u_, sumF 10 up by_ = u_ := ⟨_, rfl⟩
  have hdown : U32 down := edown ▸ sum_U hup hby_
  have ddown := does_10 hup hby_
  rw [edown] at ddown
  obtain ⟨top, etop⟩ : ∃ u_, sumF 10 a t = u_ := ⟨_, rfl⟩
  have htop : U32 top := etop ▸ sum_U ha htU
  have dtop := does_10 ha htU
  rw [etop] at dtop
  obtain ⟨low, elow⟩ : ∃ u_, sumF 11 a by_ = u_ := ⟨_, rfl⟩
  have hlow : U32 low := elow ▸ sum_U ha hby_
  have dlow := does_11 ha hby_
  rw [elow] at dlow
  obtain ⟨sign, esign⟩ : ∃ u_, sumF 12 a 0 = u_ := ⟨_, rfl⟩
  have hsign : U32 sign := esign ▸ sum_U ha h0
  have dsign := does_12 ha h0
  rw [esign] at dsign
  refine OkCall.of2 ?_
  refine into I8ok 6 ?_
  conv => cbv
  refine OkCall.by_spec dsum [0] (by decide) (by cbv) (by cbv) ?_
  conv => cbv
  refine OkCall.by_spec dback [0] (by decide) (by cbv) (by cbv) ?_
  conv => cbv
  refine OkCall.by_spec dq [0] (by decide) (by cbv) (by cbv) ?_
  conv => cbv
  refine OkCall.by_spec dm [0] (by decide) (by cbv) (by cbv) ?_
  conv => cbv
  refine OkCall.by_spec dp [0] (by decide) (by cbv) (by cbv) ?_
  conv => cbv
  refine OkCall.by_spec dall [0] (by decide) (by cbv) (by cbv) ?_
  conv => cbv
  refine OkCall.by_spec dless [0] (by decide) (by cbv) (by cbv) ?_
  conv => cbv
  refine OkCall.by_spec dmore [0] (by decide) (by cbv) (by cbv) ?_
  conv => cbv
  refine OkCall.by_spec dx [0] (by decide) (by cbv) (by cbv) ?_
  conv => cbv
  refine OkCall.by_spec dy [0] (by decide) (by cbv) (by cbv) ?_
  conv => cbv
  refine OkCall.by_spec dand_ [0] (by decide) (by cbv) (by cbv) ?_
  conv => cbv
  refine OkCall.by_spec dor_ [0] (by decide) (by cbv) (by cbv) ?_
  conv => cbv
  refine OkCall.by_spec dtwo [0] (by decide) (by cbv) (by cbv) ?_
  conv => cbv
  refine OkCall.by_spec dup [0] (by decide) (by cbv) (by cbv) ?_
  conv => cbv
  refine OkCall.by_spec ddown [0] (by decide) (by cbv) (by cbv) ?_
  conv => cbv
  refine OkCall.by_spec dtop [0] (by decide) ?_ (by cbv) ?_
  · conv => cbv
    exact ⟨ht.symm, trivial⟩
  conv => cbv
  refine OkCall.by_spec dlow [0] (by decide) (by cbv) (by cbv) ?_
  conv => cbv
  refine OkCall.by_spec dsign [0] (by decide) (by cbv) (by cbv) ?_
  conv => cbv
  have hback' : back = a := by rw [← eback, ← esum]; exact p_back ha
  have hl1 : addI .u32 less more ≤ 1 := by rw [← eless, ← emore]; exact p_less.1
  have hl2 : addI .u32 less more = 0 → a = b := by rw [← eless, ← emore]; exact p_less.2
  have hy' : y = a := by rw [← ey, ← ex]; exact p_xor ha hb
  have htwo' : two = sum := by rw [← etwo, ← eand_, ← eor_, ← esum]; exact p_two ha hb
  clear dsum dback dq dm dp dall dless dmore dx dy dand_ dor_ dtwo dup ddown dtop dlow dsign
  refine Br.no (by show notB (eqI back a) = false; rw [hback', notB_eq, eqI_eq]; simp) ?_
  conv => cbv
  refine Br.no (by show ltI 1 (addI .u32 less more) = false; rw [ltI_eq, decide_eq_false_iff_not]; omega) ?_
  conv => cbv
  have hn : (remI by_ 32) = by_ % 32 := by rw [remI_eq]; exact Int.tmod_eq_emod_of_nonneg hby_.1
  have hn0 : 0 ≤ (remI by_ 32) := by rw [hn]; omega
  have hm : andI .u32 by_ 31 = (remI by_ 32) := by rw [m31 hby_, hn]
  have hdown : down = shrI .u32 (shlI .u32 a (remI by_ 32)) (remI by_ 32) := by rw [← edown, ← eup, p_down ha hby_, hm]
  have htop : (remI by_ 32) = 0 → shrI .u32 top 1 = 0 := by
    intro h
    have e : shrI .u32 top 1 = top / 2 := shrI_u32 top 1 (by decide)
    rw [e, ← etop]
    refine p_top ha ?_
    rw [← ht, hn] at *
    rw [subI_eq, addI_eq, mulI_eq, wrap_u32, wrap_u32, wrap_u32]
    omega
  have hlow : shrI .u32 low 31 = sign := by
    have e : shrI .u32 low 31 = low / 2147483648 := shrI_u32 low 31 (by decide)
    rw [e, ← elow, ← esign]
    exact p_low ha
  have hlow0 : sign = 0 → low = shrI .u32 a (remI by_ 32) := by
    intro h
    rw [← elow, p_low0 ha (by rw [esign, h]), ← hm]
    exact (sum_10 hby_).symm
  have hup : up = mulI .u32 a (shlI .u32 1 (remI by_ 32)) := by
    rw [← eup, ← hm, sum_9 hby_, mulI_eq, wrap_u32]
    simp only [sumF, w32]
    rw [Int.one_mul, Int.mul_emod, Int.mul_emod a (2 ^ (by_ % 32).toNat % 4294967296), Int.emod_emod_of_dvd _ (Int.dvd_refl _)]
  refine Br.mk (fun hl => ?_) (fun hl => ?_)
  · replace hl : eqI (addI .u32 less more) 0 = true := hl
    rw [eqI_eq, beq_iff_eq] at hl
    have hab := hl2 hl
    conv => cbv
    refine Br.no (by show notB (eqI a b) = false; rw [hab, notB_eq, eqI_eq]; simp) ?_
    conv => cbv
    refine Br.no (by show notB (eqI y a) = false; rw [hy', notB_eq, eqI_eq]; simp) ?_
    conv => cbv
    refine Br.no (by show notB (eqI two sum) = false; rw [htwo', notB_eq, eqI_eq]; simp) ?_
    conv => cbv
    by_cases hb1 : b = 0
    · have hd := p_div0 (a := a) hb1
      rw [eq, em] at hd
      refine Br.no (by show notB (eqI b 0) = false; rw [hb1, notB_eq, eqI_eq]; simp) ?_
      conv => cbv
      refine Br.yes (by show eqI b 0 = true; rw [hb1, eqI_eq]; simp) ?_
      conv => cbv
      refine Br.no (by show notB (eqI q 4294967295) = false; rw [hd.1, notB_eq, eqI_eq]; simp) ?_
      conv => cbv
      refine Br.no (by show notB (eqI m a) = false; rw [hd.2, notB_eq, eqI_eq]; simp) ?_
      conv => cbv
      refine And.intro (geZ.mk (by show 0 ≤ remI by_ 32; exact hn0)) (And.intro (geZ.mk (by show 0 ≤ remI by_ 32; exact hn0)) ?_)
      refine Br.no (by show notB (eqI down (shrI .u32 (shlI .u32 a (remI by_ 32)) (remI by_ 32))) = false; rw [hdown, notB_eq, eqI_eq]; simp) ?_
      conv => cbv
      refine Br.mk (fun ht1 => ?_) (fun ht1 => ?_)
      · replace ht1 : notB (eqI (shrI .u32 top 1) 0) = true := ht1
        conv => cbv
        refine Br.no (by show eqI (remI by_ 32) 0 = false; rw [eqI_eq, beq_eq_false_iff_ne]; intro h; rw [htop h, notB_eq, eqI_eq] at ht1; simp at ht1) ?_
        conv => cbv
        refine Br.no (by show notB (eqI (shrI .u32 low 31) sign) = false; rw [hlow, notB_eq, eqI_eq]; simp) ?_
        conv => cbv
        refine And.intro (geZ.mk (by show 0 ≤ remI by_ 32; exact hn0)) ?_
        refine Br.mk (fun hw1 => ?_) (fun hw1 => ?_)
        · replace hw1 : notB (eqI low (shrI .u32 a (remI by_ 32))) = true := hw1
          conv => cbv
          refine Br.no (by show eqI sign 0 = false; rw [eqI_eq, beq_eq_false_iff_ne]; intro h; rw [hlow0 h, notB_eq, eqI_eq] at hw1; simp at hw1) ?_
          conv => cbv
          refine And.intro (geZ.mk (by show 0 ≤ remI by_ 32; exact hn0)) ?_
          refine LeOut.two (LeOut.mk' [0, 1] (by decide) rfl (by decide) ?_ (by cbv))
          conv => cbv
          show true = eqI up (mulI .u32 a (shlI .u32 1 (remI by_ 32)))
          rw [hup, eqI_eq]; simp
        · conv => cbv
          refine And.intro (geZ.mk (by show 0 ≤ remI by_ 32; exact hn0)) ?_
          refine LeOut.two (LeOut.mk' [0, 1] (by decide) rfl (by decide) ?_ (by cbv))
          conv => cbv
          show true = eqI up (mulI .u32 a (shlI .u32 1 (remI by_ 32)))
          rw [hup, eqI_eq]; simp
      · conv => cbv
        refine Br.no (by show notB (eqI (shrI .u32 low 31) sign) = false; rw [hlow, notB_eq, eqI_eq]; simp) ?_
        conv => cbv
        refine And.intro (geZ.mk (by show 0 ≤ remI by_ 32; exact hn0)) ?_
        refine Br.mk (fun hw1 => ?_) (fun hw1 => ?_)
        · replace hw1 : notB (eqI low (shrI .u32 a (remI by_ 32))) = true := hw1
          conv => cbv
          refine Br.no (by show eqI sign 0 = false; rw [eqI_eq, beq_eq_false_iff_ne]; intro h; rw [hlow0 h, notB_eq, eqI_eq] at hw1; simp at hw1) ?_
          conv => cbv
          refine And.intro (geZ.mk (by show 0 ≤ remI by_ 32; exact hn0)) ?_
          refine LeOut.two (LeOut.mk' [0, 1] (by decide) rfl (by decide) ?_ (by cbv))
          conv => cbv
          show true = eqI up (mulI .u32 a (shlI .u32 1 (remI by_ 32)))
          rw [hup, eqI_eq]; simp
        · conv => cbv
          refine And.intro (geZ.mk (by show 0 ≤ remI by_ 32; exact hn0)) ?_
          refine LeOut.two (LeOut.mk' [0, 1] (by decide) rfl (by decide) ?_ (by cbv))
          conv => cbv
          show true = eqI up (mulI .u32 a (shlI .u32 1 (remI by_ 32)))
          rw [hup, eqI_eq]; simp
    · have hd := p_div ha hb hb1
      rw [eq, em, ep, eall] at hd
      refine Br.yes (by show notB (eqI b 0) = true; rw [notB_eq, eqI_eq]; simpa using hb1) ?_
      conv => cbv
      refine Br.no (by show notB (eqI all a) = false; rw [hd.1, notB_eq, eqI_eq]; simp) ?_
      conv => cbv
      refine Br.no (by show leI b m = false; rw [leI_eq, decide_eq_false_iff_not]; omega) ?_
      conv => cbv
      refine Br.no (by show eqI b 0 = false; rw [eqI_eq]; simpa using hb1) ?_
      conv => cbv
      refine And.intro (geZ.mk (by show 0 ≤ remI by_ 32; exact hn0)) (And.intro (geZ.mk (by show 0 ≤ remI by_ 32; exact hn0)) ?_)
      refine Br.no (by show notB (eqI down (shrI .u32 (shlI .u32 a (remI by_ 32)) (remI by_ 32))) = false; rw [hdown, notB_eq, eqI_eq]; simp) ?_
      conv => cbv
      refine Br.mk (fun ht1 => ?_) (fun ht1 => ?_)
      · replace ht1 : notB (eqI (shrI .u32 top 1) 0) = true := ht1
        conv => cbv
        refine Br.no (by show eqI (remI by_ 32) 0 = false; rw [eqI_eq, beq_eq_false_iff_ne]; intro h; rw [htop h, notB_eq, eqI_eq] at ht1; simp at ht1) ?_
        conv => cbv
        refine Br.no (by show notB (eqI (shrI .u32 low 31) sign) = false; rw [hlow, notB_eq, eqI_eq]; simp) ?_
        conv => cbv
        refine And.intro (geZ.mk (by show 0 ≤ remI by_ 32; exact hn0)) ?_
        refine Br.mk (fun hw1 => ?_) (fun hw1 => ?_)
        · replace hw1 : notB (eqI low (shrI .u32 a (remI by_ 32))) = true := hw1
          conv => cbv
          refine Br.no (by show eqI sign 0 = false; rw [eqI_eq, beq_eq_false_iff_ne]; intro h; rw [hlow0 h, notB_eq, eqI_eq] at hw1; simp at hw1) ?_
          conv => cbv
          refine And.intro (geZ.mk (by show 0 ≤ remI by_ 32; exact hn0)) ?_
          refine LeOut.two (LeOut.mk' [0, 1] (by decide) rfl (by decide) ?_ (by cbv))
          conv => cbv
          show true = eqI up (mulI .u32 a (shlI .u32 1 (remI by_ 32)))
          rw [hup, eqI_eq]; simp
        · conv => cbv
          refine And.intro (geZ.mk (by show 0 ≤ remI by_ 32; exact hn0)) ?_
          refine LeOut.two (LeOut.mk' [0, 1] (by decide) rfl (by decide) ?_ (by cbv))
          conv => cbv
          show true = eqI up (mulI .u32 a (shlI .u32 1 (remI by_ 32)))
          rw [hup, eqI_eq]; simp
      · conv => cbv
        refine Br.no (by show notB (eqI (shrI .u32 low 31) sign) = false; rw [hlow, notB_eq, eqI_eq]; simp) ?_
        conv => cbv
        refine And.intro (geZ.mk (by show 0 ≤ remI by_ 32; exact hn0)) ?_
        refine Br.mk (fun hw1 => ?_) (fun hw1 => ?_)
        · replace hw1 : notB (eqI low (shrI .u32 a (remI by_ 32))) = true := hw1
          conv => cbv
          refine Br.no (by show eqI sign 0 = false; rw [eqI_eq, beq_eq_false_iff_ne]; intro h; rw [hlow0 h, notB_eq, eqI_eq] at hw1; simp at hw1) ?_
          conv => cbv
          refine And.intro (geZ.mk (by show 0 ≤ remI by_ 32; exact hn0)) ?_
          refine LeOut.two (LeOut.mk' [0, 1] (by decide) rfl (by decide) ?_ (by cbv))
          conv => cbv
          show true = eqI up (mulI .u32 a (shlI .u32 1 (remI by_ 32)))
          rw [hup, eqI_eq]; simp
        · conv => cbv
          refine And.intro (geZ.mk (by show 0 ≤ remI by_ 32; exact hn0)) ?_
          refine LeOut.two (LeOut.mk' [0, 1] (by decide) rfl (by decide) ?_ (by cbv))
          conv => cbv
          show true = eqI up (mulI .u32 a (shlI .u32 1 (remI by_ 32)))
          rw [hup, eqI_eq]; simp
  · conv => cbv
    refine Br.no (by show notB (eqI y a) = false; rw [hy', notB_eq, eqI_eq]; simp) ?_
    conv => cbv
    refine Br.no (by show notB (eqI two sum) = false; rw [htwo', notB_eq, eqI_eq]; simp) ?_
    conv => cbv
    by_cases hb1 : b = 0
    · have hd := p_div0 (a := a) hb1
      rw [eq, em] at hd
      refine Br.no (by show notB (eqI b 0) = false; rw [hb1, notB_eq, eqI_eq]; simp) ?_
      conv => cbv
      refine Br.yes (by show eqI b 0 = true; rw [hb1, eqI_eq]; simp) ?_
      conv => cbv
      refine Br.no (by show notB (eqI q 4294967295) = false; rw [hd.1, notB_eq, eqI_eq]; simp) ?_
      conv => cbv
      refine Br.no (by show notB (eqI m a) = false; rw [hd.2, notB_eq, eqI_eq]; simp) ?_
      conv => cbv
      refine And.intro (geZ.mk (by show 0 ≤ remI by_ 32; exact hn0)) (And.intro (geZ.mk (by show 0 ≤ remI by_ 32; exact hn0)) ?_)
      refine Br.no (by show notB (eqI down (shrI .u32 (shlI .u32 a (remI by_ 32)) (remI by_ 32))) = false; rw [hdown, notB_eq, eqI_eq]; simp) ?_
      conv => cbv
      refine Br.mk (fun ht1 => ?_) (fun ht1 => ?_)
      · replace ht1 : notB (eqI (shrI .u32 top 1) 0) = true := ht1
        conv => cbv
        refine Br.no (by show eqI (remI by_ 32) 0 = false; rw [eqI_eq, beq_eq_false_iff_ne]; intro h; rw [htop h, notB_eq, eqI_eq] at ht1; simp at ht1) ?_
        conv => cbv
        refine Br.no (by show notB (eqI (shrI .u32 low 31) sign) = false; rw [hlow, notB_eq, eqI_eq]; simp) ?_
        conv => cbv
        refine And.intro (geZ.mk (by show 0 ≤ remI by_ 32; exact hn0)) ?_
        refine Br.mk (fun hw1 => ?_) (fun hw1 => ?_)
        · replace hw1 : notB (eqI low (shrI .u32 a (remI by_ 32))) = true := hw1
          conv => cbv
          refine Br.no (by show eqI sign 0 = false; rw [eqI_eq, beq_eq_false_iff_ne]; intro h; rw [hlow0 h, notB_eq, eqI_eq] at hw1; simp at hw1) ?_
          conv => cbv
          refine And.intro (geZ.mk (by show 0 ≤ remI by_ 32; exact hn0)) ?_
          refine LeOut.two (LeOut.mk' [0, 1] (by decide) rfl (by decide) ?_ (by cbv))
          conv => cbv
          show true = eqI up (mulI .u32 a (shlI .u32 1 (remI by_ 32)))
          rw [hup, eqI_eq]; simp
        · conv => cbv
          refine And.intro (geZ.mk (by show 0 ≤ remI by_ 32; exact hn0)) ?_
          refine LeOut.two (LeOut.mk' [0, 1] (by decide) rfl (by decide) ?_ (by cbv))
          conv => cbv
          show true = eqI up (mulI .u32 a (shlI .u32 1 (remI by_ 32)))
          rw [hup, eqI_eq]; simp
      · conv => cbv
        refine Br.no (by show notB (eqI (shrI .u32 low 31) sign) = false; rw [hlow, notB_eq, eqI_eq]; simp) ?_
        conv => cbv
        refine And.intro (geZ.mk (by show 0 ≤ remI by_ 32; exact hn0)) ?_
        refine Br.mk (fun hw1 => ?_) (fun hw1 => ?_)
        · replace hw1 : notB (eqI low (shrI .u32 a (remI by_ 32))) = true := hw1
          conv => cbv
          refine Br.no (by show eqI sign 0 = false; rw [eqI_eq, beq_eq_false_iff_ne]; intro h; rw [hlow0 h, notB_eq, eqI_eq] at hw1; simp at hw1) ?_
          conv => cbv
          refine And.intro (geZ.mk (by show 0 ≤ remI by_ 32; exact hn0)) ?_
          refine LeOut.two (LeOut.mk' [0, 1] (by decide) rfl (by decide) ?_ (by cbv))
          conv => cbv
          show true = eqI up (mulI .u32 a (shlI .u32 1 (remI by_ 32)))
          rw [hup, eqI_eq]; simp
        · conv => cbv
          refine And.intro (geZ.mk (by show 0 ≤ remI by_ 32; exact hn0)) ?_
          refine LeOut.two (LeOut.mk' [0, 1] (by decide) rfl (by decide) ?_ (by cbv))
          conv => cbv
          show true = eqI up (mulI .u32 a (shlI .u32 1 (remI by_ 32)))
          rw [hup, eqI_eq]; simp
    · have hd := p_div ha hb hb1
      rw [eq, em, ep, eall] at hd
      refine Br.yes (by show notB (eqI b 0) = true; rw [notB_eq, eqI_eq]; simpa using hb1) ?_
      conv => cbv
      refine Br.no (by show notB (eqI all a) = false; rw [hd.1, notB_eq, eqI_eq]; simp) ?_
      conv => cbv
      refine Br.no (by show leI b m = false; rw [leI_eq, decide_eq_false_iff_not]; omega) ?_
      conv => cbv
      refine Br.no (by show eqI b 0 = false; rw [eqI_eq]; simpa using hb1) ?_
      conv => cbv
      refine And.intro (geZ.mk (by show 0 ≤ remI by_ 32; exact hn0)) (And.intro (geZ.mk (by show 0 ≤ remI by_ 32; exact hn0)) ?_)
      refine Br.no (by show notB (eqI down (shrI .u32 (shlI .u32 a (remI by_ 32)) (remI by_ 32))) = false; rw [hdown, notB_eq, eqI_eq]; simp) ?_
      conv => cbv
      refine Br.mk (fun ht1 => ?_) (fun ht1 => ?_)
      · replace ht1 : notB (eqI (shrI .u32 top 1) 0) = true := ht1
        conv => cbv
        refine Br.no (by show eqI (remI by_ 32) 0 = false; rw [eqI_eq, beq_eq_false_iff_ne]; intro h; rw [htop h, notB_eq, eqI_eq] at ht1; simp at ht1) ?_
        conv => cbv
        refine Br.no (by show notB (eqI (shrI .u32 low 31) sign) = false; rw [hlow, notB_eq, eqI_eq]; simp) ?_
        conv => cbv
        refine And.intro (geZ.mk (by show 0 ≤ remI by_ 32; exact hn0)) ?_
        refine Br.mk (fun hw1 => ?_) (fun hw1 => ?_)
        · replace hw1 : notB (eqI low (shrI .u32 a (remI by_ 32))) = true := hw1
          conv => cbv
          refine Br.no (by show eqI sign 0 = false; rw [eqI_eq, beq_eq_false_iff_ne]; intro h; rw [hlow0 h, notB_eq, eqI_eq] at hw1; simp at hw1) ?_
          conv => cbv
          refine And.intro (geZ.mk (by show 0 ≤ remI by_ 32; exact hn0)) ?_
          refine LeOut.two (LeOut.mk' [0, 1] (by decide) rfl (by decide) ?_ (by cbv))
          conv => cbv
          show true = eqI up (mulI .u32 a (shlI .u32 1 (remI by_ 32)))
          rw [hup, eqI_eq]; simp
        · conv => cbv
          refine And.intro (geZ.mk (by show 0 ≤ remI by_ 32; exact hn0)) ?_
          refine LeOut.two (LeOut.mk' [0, 1] (by decide) rfl (by decide) ?_ (by cbv))
          conv => cbv
          show true = eqI up (mulI .u32 a (shlI .u32 1 (remI by_ 32)))
          rw [hup, eqI_eq]; simp
      · conv => cbv
        refine Br.no (by show notB (eqI (shrI .u32 low 31) sign) = false; rw [hlow, notB_eq, eqI_eq]; simp) ?_
        conv => cbv
        refine And.intro (geZ.mk (by show 0 ≤ remI by_ 32; exact hn0)) ?_
        refine Br.mk (fun hw1 => ?_) (fun hw1 => ?_)
        · replace hw1 : notB (eqI low (shrI .u32 a (remI by_ 32))) = true := hw1
          conv => cbv
          refine Br.no (by show eqI sign 0 = false; rw [eqI_eq, beq_eq_false_iff_ne]; intro h; rw [hlow0 h, notB_eq, eqI_eq] at hw1; simp at hw1) ?_
          conv => cbv
          refine And.intro (geZ.mk (by show 0 ≤ remI by_ 32; exact hn0)) ?_
          refine LeOut.two (LeOut.mk' [0, 1] (by decide) rfl (by decide) ?_ (by cbv))
          conv => cbv
          show true = eqI up (mulI .u32 a (shlI .u32 1 (remI by_ 32)))
          rw [hup, eqI_eq]; simp
        · conv => cbv
          refine And.intro (geZ.mk (by show 0 ≤ remI by_ 32; exact hn0)) ?_
          refine LeOut.two (LeOut.mk' [0, 1] (by decide) rfl (by decide) ?_ (by cbv))
          conv => cbv
          show true = eqI up (mulI .u32 a (shlI .u32 1 (remI by_ 32)))
          rw [hup, eqI_eq]; simp
end Go.Proofs.YtkljgpepogkgdaaDoor
