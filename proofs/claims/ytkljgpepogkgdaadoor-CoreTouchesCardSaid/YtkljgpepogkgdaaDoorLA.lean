/-
  CoreTouches: the walk.
-/
import Derived.Test.YtkljgpepogkgdaaDoorGL
import Derived.Test.YtkljgpepogkgdaaDoorBB
import Derived.Test.YtkljgpepogkgdaaDoorPA
import Derived.Test.YtkljgpepogkgdaaDoorP3
set_option linter.unusedVariables false
set_option linter.unusedSimpArgs false
namespace Go.Proofs.YtkljgpepogkgdaaDoor
open Go Go.Vex
set_option maxRecDepth 20000
set_option maxHeartbeats 4000000
theorem BImp.ints0 {T : TypeId} {l : List SV} (k : IntKind) : BImp (.cells T l) (.cells T (.ints k (.ex 0) [] :: l)) :=
  ⟨fun ρ addr o w' ⟨cs, h1, h2⟩ => ⟨cs, .cons [] cs rfl (.ints rfl rfl) h1, h2⟩⟩
noncomputable def I20 : FnT := [(20, fi Tryd.f20 ⟨[], 0⟩), (16, fi Tryd.f16 ⟨[], 0⟩)]
theorem I20ok : FnsOk kit I20 := ⟨fo20 _, fo16 _, trivial⟩
theorem calm_spec (w time : Int) (values : List Int) (mv cv : Nat) (h2 : values.length = mv) (g2 : mv ≤ 35184372088800) :
    Spec1 kit 20 [.i .u32 (.ex w), .slc 0 0 1 (.lit 0) (.ex mv) (.ex cv), .i .u64 (.ex time)] [intsB .u32 mv values] false (.p 2 (.at 0)) [intsB .u32 mv values] [boardB ⟨[w], values, [], [], time, -1, false, [], [], [], [], 0, 0, 0, 0⟩] := by
  refine Spec1.mk2 rfl fun F => ?_
  refine into I20ok 6 ?_
  conv => cbv
  refine ⟨apOk.mk (by decide) (by decide), AllN.mk fun k1 hk1 => ?_⟩
  conv => cbv
  refine ⟨eqN.rfl _, apOk.mk (by omega) (by omega), AllN.mk fun k2 hk2 => ?_⟩
  conv => cbv
  refine ⟨apOk.mk (by decide) (by decide), AllN.mk fun k3 hk3 => ?_⟩
  conv => cbv
  refine ⟨apOk.mk (by decide) (by decide), AllN.mk fun k4 hk4 => ?_⟩
  conv => cbv
  refine ⟨apOk.mk (by decide) (by decide), AllN.mk fun k5 hk5 => ?_⟩
  conv => cbv
  refine LeOut2.imp (HImp.roInts 5 rfl) (LeOut2.imp (HImp.roInts 6 rfl) (LeOut2.imp (HImp.at 7 rfl (BImp.ints0 .i64)) (LeOut2.imp (HImp.roInts 7 rfl) (LeOut2.imp (HImp.at 8 rfl (BImp.ints0 .i64)) (LeOut2.imp (HImp.roInts 8 rfl) (LeOut2.imp (HImp.at 9 rfl (BImp.rows0 4 (logF [] [] [] []))) ?_))))))
  refine LeOut2.imp (HImp.fold (S := boardSh _) 4 [5, 6, 7, 8, 9] (boardL ⟨[w], values, [], [], time, -1, false, [], [], [], [], 0, 0, 0, 0⟩ 1 mv 0 0 0 k1 k2 k3 k4 k5) (by decide) ?_ ⟨1, mv, 0, 0, 0, k1, k2, k3, k4, k5, ⟨rfl, h2, rfl, rfl, rfl, rfl, rfl, rfl, hk5⟩, rfl⟩) ?_
  · conv => cbv
    exact ⟨⟨fun j _ => by cbv, trivial⟩, trivial⟩
  exact (LeOut.mk' [0, 1, 4] (by decide) rfl id (by cbv) (by cbv)).two
noncomputable def I10 : FnT := [(10, fi Tryd.f10 ⟨[14, 15, 1000013, 1000032], 0⟩)]
theorem I10ok : FnsOk kit I10 := ⟨fo10 _, trivial⟩
theorem touches_walk : opnArgs tab 9 [22, 25, 25, 26, 29] 1 (lawK 10 [.glob 0 layoutsL]) := by
  conv => cbv
  intro w hw
  conv => cbv
  intro R hR1 hR2
  conv => cbv
  intro pc hpc
  conv => cbv
  intro vec hvec
  conv => cbv
  intro back hback
  conv => cbv
  intro on
  conv => cbv
  intro hdl
  conv => cbv
  intro O hO1 hO2
  conv => cbv
  intro pc2 hpc2
  conv => cbv
  intro vec2 hvec2
  conv => cbv
  intro back2 hback2
  conv => cbv
  intro on2
  conv => cbv
  intro hdl2
  conv => cbv
  intro n2 c2 V hV1 hV2 hV3 hV4 hV5
  conv => cbv
  intro time htime
  have h2 : n2 * 4 ≤ 140737488351232 := hV4
  have htm : 0 ≤ time ∧ time < 18446744073709551616 := by
    have := htime
    simp [InK, Lit.wf, IntKind.min, IntKind.max, IntKind.bits, IntKind.signed] at this
    exact ⟨this.1, by omega⟩
  have hwU := inK_u32 hw
  conv => cbv
  intro A
  refine OkCall.of2 ?_
  refine into I10ok 6 ?_
  conv => cbv
  refine OkCall.by_spec awake_spec [0] (by decide) (by cbv) (by cbv) ?_
  conv => cbv
  cases hi : decF w with
  | none =>
    obtain ⟨e, he, hor, hsp⟩ := dec_bad hwU.1 hwU.2 hi
    refine OkCall.by_spec hsp [0] (by decide) (by cbv) (by cbv) ?_
    rcases hor with rfl | rfl | rfl
    all_goals
      conv => cbv
      exact (LeOut.mk' [0, 1, 2] (by decide) rfl (by decide) (by cbv) (by cbv)).two
  | some i =>
    obtain ⟨hdx, hus⟩ := dec_uses hwU.1 hwU.2 i hi
    have hdf := decf_d hwU.1 hwU.2 hi
    have htwo := step_two hwU.1 hwU.2 hi R O V hR1 pc vec back time hdl
    obtain ⟨op, d, a, b, imm⟩ := i
    obtain ⟨opI, hopI⟩ : ∃ x : Int, (op : Int) = x := ⟨_, rfl⟩
    obtain ⟨rd, hrd⟩ : ∃ x, readsF opI a b = x := ⟨_, rfl⟩
    obtain ⟨wr, hwr⟩ : ∃ x, writesF opI d = x := ⟨_, rfl⟩
    simp only [DecX, UsesIs, hopI, hrd, hwr] at hdx hus htwo hdf
    refine OkCall.by_spec hdx [0] (by decide) (by cbv) (by cbv) ?_
    conv => cbv
    refine OkCall.by_spec hus [0] (by decide) (by cbv) (by cbv) ?_
    conv => cbv
    refine Obs.int (.ex rd) rfl ?_
    conv => cbv
    refine Obs.int (.ex wr) rfl ?_
    conv => cbv
    have hmU : ∀ n, ∀ z ∈ mixF rd R O n, U32 z := mix_U (fun z hz => inK_u32 (hR2 z hz)) (fun z hz => inK_u32 (hO2 z hz))
    refine byInv I10ok 6 ⟨[14, 15, 1000013, 1000032], 0⟩ (fun z : Int => ⟨[(17, .i .i64 (.ex z)), (16, .p 6 (.at 0)), (15, .i .u16 (.ex wr)), (14, .i .u16 (.ex rd)), (12, .p 5 (.at 0)), (7, .p 4 (.at 0)), (6, .p 3 (.at 0)), (0, .i .u32 (.ex w)), (3, .slc 1 0 1 (.lit 0) (.ex n2) (.ex c2)), (4, .i .u64 (.ex time))],
      [.glob 0 layoutsL, .ro [.ints .u32 (.ex n2) V], .abs A, .cells 25 (regL ⟨R, pc, vec, back, false, hdl⟩), .cells 25 (regL ⟨O, pc2, vec2, back2, on2, hdl2⟩), .cells 64 [.i .i64 (.ex opI), .i .u8 (.ex d), .i .u8 (.ex a), .i .u8 (.ex b), .i .i32 (.ex imm)], .cells 25 (regL ⟨mixF rd R O z.toNat, pc, vec, back, false, hdl⟩)]⟩)
      (fun z => 20 - z.toNat) (fun z => 1 ≤ z ∧ z ≤ 16) false 1 (by kernel_rfl) ⟨by omega, by omega⟩
      (LeSt.mk' [0, 1, 2, 3, 4, 7, 9] (by decide) rfl id (by cbv) (by rw [show (1 : Int).toNat = 1 from rfl, mix_one]; cbv)) ?_
    rintro z ⟨hz0, hz1⟩
    obtain ⟨L, hL⟩ : ∃ L, mixF rd R O z.toNat = L := ⟨_, rfl⟩
    have hLl : L.length = 16 := by rw [← hL, mix_len, hR1]
    rw [hL]
    obtain ⟨z1, hz'⟩ : ∃ x, z + 1 = x := ⟨_, rfl⟩
    conv => cbv
    refine Br.mk (fun hd => ?_) (fun hd => ?_)
    · simp only [leafs, decide_eq_true_eq] at hd
      conv => cbv
      refine ⟨geZ.mk (by omega), Br.mk (fun hb => ?_) (fun hb => ?_)⟩
      · have hb0 : rbit rd z = 0 := by have h : eqI (rbit rd z) 0 = true := hb; rw [eqI_eq] at h; simpa using h
        have hm1 : mixF rd R O z1.toNat = setI L (toN z) (gi O (toN z)) := by
          rw [show z1.toNat = z.toNat + 1 by omega, mixF, if_pos ⟨by omega, by rw [show ((z.toNat : Nat) : Int) = z by omega]; exact hb0⟩, hL, setI_eq, gi_eq, toN_eq]
        conv => cbv
        refine ⟨inR.mk (by omega) (by omega), nLt.mk (by simp only [leafs]; omega), inR.mk (by omega) (by omega), nLt.mk (by simp only [leafs]; omega), ?_⟩
        refine ⟨z1, ⟨⟨by omega, by omega⟩, by omega⟩, _, (HImp.refl _).ext, LeSt.mk' (List.range 7) (by decide) rfl id ?_ ?_⟩
        · conv => cbv
          simp only [leafs]
          rw [IntWalk.i64_in _ (by omega)]
          exact ⟨hz'.symm, trivial⟩
        · rw [hm1]
          conv => cbv
          trivial
      · have hb0 : rbit rd z ≠ 0 := by have h : eqI (rbit rd z) 0 = false := hb; rw [eqI_eq] at h; simpa using h
        have hm1 : mixF rd R O z1.toNat = L := by
          rw [show z1.toNat = z.toNat + 1 by omega, mixF, if_neg (by rw [show ((z.toNat : Nat) : Int) = z by omega]; exact fun h => hb0 h.2), hL]
        conv => cbv
        refine ⟨z1, ⟨⟨by omega, by omega⟩, by omega⟩, _, (HImp.refl _).ext, LeSt.mk' (List.range 7) (by decide) rfl id ?_ ?_⟩
        · conv => cbv
          simp only [leafs]
          rw [IntWalk.i64_in _ (by omega)]
          exact ⟨hz'.symm, trivial⟩
        · rw [hm1]
          conv => cbv
          trivial
    · simp only [leafs, decide_eq_false_iff_not] at hd
      obtain rfl : z = 16 := by omega
      have hL16 : mixF rd R O 16 = L := hL
      rw [hL16] at htwo
      obtain ⟨o, ho⟩ : ∃ o, stepF ⟨R, pc, vec, back, false, hdl⟩ ⟨[w], V, [], [], time, -1, false, [], [], [], [], 0, 0, 0, 0⟩ = o := ⟨_, rfl⟩
      obtain ⟨p, hp⟩ : ∃ o, stepF ⟨L, pc, vec, back, false, hdl⟩ ⟨[w], V, [], [], time, -1, false, [], [], [], [], 0, 0, 0, 0⟩ = o := ⟨_, rfl⟩
      have htw := htwo o p ho hp
      have hreg1 : RegOk ⟨R, pc, vec, back, false, hdl⟩ := ⟨hR1, fun z hz => inK_u32 (hR2 z hz), inK_u32 hpc, inK_u32 hvec, inK_u32 hback⟩
      have hreg2 : RegOk ⟨L, pc, vec, back, false, hdl⟩ := ⟨hLl, fun z hz => hmU 16 z (by rw [hL16]; exact hz), inK_u32 hpc, inK_u32 hvec, inK_u32 hback⟩
      have hb0 : BInv [w] V [] [] 0 ⟨[w], V, [], [], time, -1, false, [], [], [], [], 0, 0, 0, 0⟩ := ⟨rfl, rfl, rfl, rfl, htm, by simp, by simp, by simp, by simp, by simp⟩
      have hbw := hb0.okW (by omega) (by intro z hz; simp at hz; subst hz; exact hwU) (fun z hz => inK_u32 (hV5 z hz)) (by simp) (by omega) (by simp) (by simp)
      have hs1 := step_spec _ _ hreg1 hbw o ho
      have hs2 := step_spec _ _ hreg2 hbw p hp
      have hlk : o.bd.lk.length ≤ 1000000 := by have := (step_inv ⟨R, pc, vec, back, false, hdl⟩ _ hb0).lk; rw [ho] at this; omega
      have hlen1 : o.regs.r.length = 16 := by have := (step_reg _ ⟨[w], V, [], [], time, -1, false, [], [], [], [], 0, 0, 0, 0⟩ hreg1 (fun z hz => inK_u32 (hV5 z hz))).len; rw [ho] at this; exact this
      have hlen2 : p.regs.r.length = 16 := by have := (step_reg _ ⟨[w], V, [], [], time, -1, false, [], [], [], [], 0, 0, 0, 0⟩ hreg2 (fun z hz => inK_u32 (hV5 z hz))).len; rw [hp] at this; exact this
      have hs3 := same_spec o.bd o.bd hlk hlk (r := true) (by simp)
      have hregs := two_regs hR1 hLl htw hdf.2.2.1 hdf.1 (fun h => hdf.2.1 h)
      rw [hopI, hwr] at hregs
      have e1 := htw.res; have e2 := htw.bd; have e3 := htw.pc; have e4 := htw.vec
      clear htw ho hp htwo hbw hb0
      obtain ⟨⟨kind', cyc', num', flt', addr', line', loaded', value', read', clk'⟩, ⟨r', pc', vec', back', on', hdl'⟩, bd'⟩ := o
      obtain ⟨res2, ⟨r2, pc2', vec2', back2', on2', hdl2'⟩, bd2⟩ := p
      simp only at e1 e2 e3 e4 hregs hlen1 hlen2
      subst e1; subst e2; subst e3; subst e4
      obtain ⟨hx0, hy0, hrj⟩ := hregs
      obtain ⟨wv, hwv⟩ : ∃ x : Int, (if opI = 40 then 0 else wr) = x := ⟨_, rfl⟩
      rw [hwv] at hrj
      conv => cbv
      refine kcode (I := []) trivial 6 ⟨[15, 1000032], 0⟩ (by kernel_rfl) ?_
      conv => cbv
      refine OkCall.by_spec (calm_spec w time V n2 c2 hV1 (by omega)) [1] (by decide) (by cbv) (by cbv) ?_
      conv => cbv
      refine OkCall.by_spec (calm_spec w time V n2 c2 hV1 (by omega)) [1] (by decide) (by cbv) (by cbv) ?_
      conv => cbv
      refine OkCall.by_spec hs1 [7, 10, 0] (by decide) (by cbv) (by cbv) ?_
      conv => cbv
      refine OkCall.by_spec hs2 [8, 12, 0] (by decide) (by cbv) (by cbv) ?_
      conv => cbv
      refine OkCall.by_spec hs3 [10, 12] (by decide) (by cbv) (by cbv) ?_
      conv => cbv
      refine Br.no (by simp only [leafs]; simp) ?_
      conv => cbv
      refine Br.no (by simp only [leafs]; rfl) ?_
      conv => cbv
      refine Br.no (by simp only [leafs]; simp) ?_
      conv => cbv
      refine Br.no (by simp only [leafs]; simp) ?_
      conv => cbv
      refine Br.no (by simp only [leafs]; simpa using hx0) ?_
      conv => cbv
      refine Br.no (by simp only [leafs]; simpa using hy0) ?_
      conv => cbv
      refine Br.mk (fun h40 => ?pos) (fun h40 => ?neg)
      case' pos =>
        have h : eqI opI 40 = true := h40
        rw [eqI_eq] at h
        have h : opI = 40 := by simpa using h
        rw [if_pos h] at hwv
        conv => cbv
        refine Obs.int (.ex wv) hwv.symm ?_
      case' neg =>
        have h : eqI opI 40 = false := h40
        rw [eqI_eq] at h
        have h : ¬ opI = 40 := by simpa using h
        rw [if_neg h] at hwv
        have hwv' := hwv.symm
        subst hwv'
      all_goals
        conv => cbv
        refine byInv (I := []) trivial 6 ⟨[15, 1000032], 0⟩ (fun z : Int => ⟨[(25, .i .i64 (.ex z)), (15, .i .u16 (.ex wv)), (6, .p 3 (.at 0)), (16, .p 4 (.at 0)), (18, .p 5 (.at 0)), (19, .p 6 (.at 0))],
          [.glob 0 layoutsL, .ro [.ints .u32 (.ex n2) V], .abs A, .cells 25 (regL ⟨R, pc, vec, back, false, hdl⟩), .cells 25 (regL ⟨L, pc, vec, back, false, hdl⟩), .cells 25 (regL ⟨r', pc', vec', back', on', hdl'⟩), .cells 25 (regL ⟨r2, pc', vec', back2', on2', hdl2'⟩)]⟩)
          (fun z => 20 - z.toNat) (fun z => 1 ≤ z ∧ z ≤ 16) false 1 (by kernel_rfl) ⟨by omega, by omega⟩
          (LeSt.mk' [0, 1, 2, 3, 6, 7, 8] (by decide) rfl id (by cbv) (by cbv)) ?_
        rintro z ⟨hz0, hz1⟩
        obtain ⟨z1, hz'⟩ : ∃ x, z + 1 = x := ⟨_, rfl⟩
        conv => cbv
        refine Br.mk (fun hd => ?_) (fun hd => ?_)
        · simp only [leafs, decide_eq_true_eq] at hd
          have hrz := hrj z.toNat ⟨by omega, by omega⟩
          rw [show ((z.toNat : Nat) : Int) = z by omega] at hrz
          conv => cbv
          refine ⟨geZ.mk (by omega), Br.mk (fun hb => ?_) (fun hb => ?_)⟩
          · have hb0 : rbit wv z = 1 := by have h : eqI (rbit wv z) 1 = true := hb; rw [eqI_eq] at h; simpa using h
            have hq : gi r' (toN z) = gi r2 (toN z) := by rw [gi_eq, gi_eq, toN_eq]; exact hrz.1 hb0
            conv => cbv
            refine ⟨inR.mk (by omega) (by omega), nLt.mk (by simp only [leafs]; omega), inR.mk (by omega) (by omega), nLt.mk (by simp only [leafs]; omega), ?_⟩
            refine Br.no (by show notB (eqI (gi r' (toN z)) (gi r2 (toN z))) = false; rw [hq, notB_eq, eqI_eq]; simp) ?_
            conv => cbv
            refine ⟨z1, ⟨⟨by omega, by omega⟩, by omega⟩, _, (HImp.refl _).ext, LeSt.mk' (List.range 7) (by decide) rfl id ?_ ?_⟩
            · conv => cbv
              simp only [leafs]
              rw [IntWalk.i64_in _ (by omega)]
              exact ⟨hz'.symm, trivial⟩
            · conv => cbv
              trivial
          · have hb0 : rbit wv z ≠ 1 := by have h : eqI (rbit wv z) 1 = false := hb; rw [eqI_eq] at h; simpa using h
            have hq1 : gi r' (toN z) = gi R (toN z) := by rw [gi_eq, gi_eq, toN_eq]; exact (hrz.2 hb0).1
            have hq2 : gi r2 (toN z) = gi L (toN z) := by rw [gi_eq, gi_eq, toN_eq]; exact (hrz.2 hb0).2
            conv => cbv
            refine ⟨inR.mk (by omega) (by omega), nLt.mk (by simp only [leafs]; omega), inR.mk (by omega) (by omega), nLt.mk (by simp only [leafs]; omega), ?_⟩
            refine Br.no (by show notB (eqI (gi r' (toN z)) (gi R (toN z))) = false; rw [hq1, notB_eq, eqI_eq]; simp) ?_
            conv => cbv
            refine ⟨inR.mk (by omega) (by omega), nLt.mk (by simp only [leafs]; omega), inR.mk (by omega) (by omega), nLt.mk (by simp only [leafs]; omega), ?_⟩
            refine Br.no (by show notB (eqI (gi r2 (toN z)) (gi L (toN z))) = false; rw [hq2, notB_eq, eqI_eq]; simp) ?_
            conv => cbv
            refine ⟨z1, ⟨⟨by omega, by omega⟩, by omega⟩, _, (HImp.refl _).ext, LeSt.mk' (List.range 7) (by decide) rfl id ?_ ?_⟩
            · conv => cbv
              simp only [leafs]
              rw [IntWalk.i64_in _ (by omega)]
              exact ⟨hz'.symm, trivial⟩
            · conv => cbv
              trivial
        · conv => cbv
          refine kcode (I := []) trivial 6 ⟨[], 0⟩ (by kernel_rfl) ?_
          conv => cbv
          exact (LeOut.mk' (List.range 3) (by decide) rfl (by decide) (by cbv) (by cbv)).two
end Go.Proofs.YtkljgpepogkgdaaDoor
