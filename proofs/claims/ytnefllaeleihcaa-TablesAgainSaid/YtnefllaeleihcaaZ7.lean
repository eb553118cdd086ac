/-
  Joined: RG LN LX.
-/
import Derived.Test.YtnefllaeleihcaaZ6
set_option linter.unusedVariables false
set_option linter.unusedSimpArgs false
/-
  tables.Ranges: the pages of a root as ranges.
-/
section
namespace Go.Proofs.Ytnefllaeleihcaa
open Go Go.Vex
set_option maxRecDepth 20000
set_option maxHeartbeats 4000000
noncomputable def I66 : FnT := [(66, fi Try.f66 ⟨[], 0⟩)]
theorem I66ok : FnsOk kit I66 := ⟨fo66 _, trivial⟩
theorem follows_spec (q r : R4) (hq : (0 ≤ q.v ∧ q.v < 4294967296) ∧ (0 ≤ q.ph ∧ q.ph < 4294967296) ∧ (0 ≤ q.g ∧ q.g < 4294967296)) (hr : (0 ≤ r.v ∧ r.v < 4294967296) ∧ (0 ≤ r.ph ∧ r.ph < 4294967296)) {b : Bool} (hb : b = folB q r) {v ph g p v' ph' g' p' : Int} (h1 : v = q.v) (h2 : ph = q.ph) (h3 : g = q.g) (h4 : p = q.p) (h5 : v' = r.v) (h6 : ph' = r.ph) (h8 : p' = r.p) :
    Spec1 kit 66 [.agg [.i .u32 (.ex v), .i .u32 (.ex ph), .i .i64 (.ex g), .i .u8 (.ex p)], .agg [.i .u32 (.ex v'), .i .u32 (.ex ph'), .i .i64 (.ex g'), .i .u8 (.ex p')]] [] false (.b (.ex b)) [] [] := by
  refine Spec1.mk2 rfl fun F => ?_
  refine into I66ok 6 ?_
  conv => cbv
  have e0 : mulI .u64 (convI .u64 g) 4096 = 4096 * q.g := by rw [convI_eq, mulI_eq, wrap_u64, wrap_u64, h3]; omega
  have e1 : addI .u64 (convI .u64 v) (mulI .u64 (convI .u64 g) 4096) = q.v + 4096 * q.g := by rw [e0, addI_eq, convI_eq, wrap_u64, wrap_u64, h1]; omega
  have e2 : convI .u64 v' = r.v := by rw [convI_eq, wrap_u64, h5]; omega
  have e3 : addI .u64 (convI .u64 ph) (mulI .u64 (convI .u64 g) 4096) = q.ph + 4096 * q.g := by rw [e0, addI_eq, convI_eq, wrap_u64, wrap_u64, h2]; omega
  have e4 : convI .u64 ph' = r.ph := by rw [convI_eq, wrap_u64, h6]; omega
  refine Br.mk (fun h => ?_) (fun h => ?_)
  · have h : q.p = r.p := by have h : p = p' := eqI_t.1 h; omega
    conv => cbv
    refine Br.mk (fun k => ?_) (fun k => ?_)
    · have k : q.v + 4096 * q.g = r.v := by rw [← e1, ← e2]; exact eqI_t.1 k
      conv => cbv
      refine (LeOut.mk' [0] (by decide) (by rfl) (by decide) ?_ (by cbv)).two
      conv => cbv
      show b = eqI (addI .u64 (convI .u64 ph) (mulI .u64 (convI .u64 g) 4096)) (convI .u64 ph')
      rw [e3, e4, eqI_eq, hb, folB, decide_eq_true h, decide_eq_true k]
      rfl
    · have k : ¬ q.v + 4096 * q.g = r.v := by rw [← e1, ← e2]; exact eqI_f.1 k
      conv => cbv
      refine (LeOut.mk' [0] (by decide) (by rfl) (by decide) ?_ (by cbv)).two
      conv => cbv
      rw [hb, folB, decide_eq_false k]; simp
  · have h : ¬ q.p = r.p := by have h : p ≠ p' := eqI_f.1 h; omega
    conv => cbv
    refine (LeOut.mk' [0] (by decide) (by rfl) (by decide) ?_ (by cbv)).two
    conv => cbv
    rw [hb, folB, decide_eq_false h]; simp
noncomputable def I29 : FnT := [(29, fi Try.f29 ⟨[1000010], 0⟩), (64, fi Try.f64 ⟨[], 0⟩)]
theorem I29ok : FnsOk kit I29 := ⟨fo29 _, fo64 _, trivial⟩
/-- A list of ranges in its variable. -/
def outR (V PH G P : List Int) (k : Nat) (bs : List Blk) : Prop := ∃ cap jc : Nat, k ≤ cap ∧ cap - k = jc ∧ bs = [.cells 22 [.slc 1 0 4 (.lit 0) (.ex k) (.ex cap)], .cells 31 [.rows 4 (.ex k) (rngF V PH G P), .junk 4 (.ex jc)]]
abbrev outRB (V PH G P : List Int) (k : Nat) : Blk := .pk (outR V PH G P k)
theorem ranges_spec (n : Int) (f : Int → Int) (root : Int) (hn : 1 ≤ n ∧ n ≤ 4096) (hm : MemOk f) (hr : 0 ≤ root ∧ root < 4294967296) {V0 PH0 G0 P0 : List Int} {k0 : Nat} (hc0 : RCols (mergeP (allP n f root)) V0 PH0 G0 P0 k0) :
    SpecM kit 29 [.p 0 (.at 0), .i .u32 (.ex root)] [memB n f] fun q v hp1 new => q = false ∧ hp1 = [memB n f] ∧ ∃ cap jc, k0 ≤ cap ∧ cap - k0 = jc ∧ v = .slc 2 0 4 (.lit 0) (.ex k0) (.ex cap) ∧ new = [.cells 31 [.rows 4 (.ex k0) (rngF V0 PH0 G0 P0), .junk 4 (.ex jc)]] := by
  obtain ⟨A0, hA0⟩ : ∃ x, x = (allP n f root).map (·.1) := ⟨_, rfl⟩
  obtain ⟨Q0, hQ0⟩ : ∃ x, x = (allP n f root).map (fun x => decP x.2) := ⟨_, rfl⟩
  obtain ⟨F0, hF0⟩ : ∃ x, x = (allP n f root).map (fun x => decF x.2) := ⟨_, rfl⟩
  obtain ⟨m, hml⟩ : ∃ x, x = (allP n f root).length := ⟨_, rfl⟩
  have hcols : Cols (allP n f root) A0 Q0 F0 m := ⟨hA0, hQ0, hF0, hml⟩
  have hmle := hcols.le
  refine SpecM.mk2 fun F => ?_
  refine into I29ok 6 ?_
  conv => cbv
  refine Ok.ext (HExt.nilFill 2 0 0 4 (.cells 31 [.rows 4 (.ex 0) (rngF [] [] [] []), .junk 4 (.ex 0)]) rfl rfl (nil_rows 31 4 _)) ?_
  refine Ok.imp (HImp.fold (S := outR [] [] [] [] 0) 2 [5] [.cells 22 [.slc 1 0 4 (.lit 0) (.ex 0) (.ex 0)], .cells 31 [.rows 4 (.ex 0) (rngF [] [] [] []), .junk 4 (.ex 0)]] (by decide) ?_ ⟨0, 0, by decide, rfl, rfl⟩) ?_
  · conv => cbv
    exact ⟨⟨fun j hj => absurd hj (Nat.not_lt_zero _), trivial⟩, trivial⟩
  refine Ok.weak (q' := false) (st' := ⟨[(12, .fn (.func 89) [] [.p 3 (.at 0), .p 4 (.at 0)]), (5, .p 2 (.at 0))], [memB n f, .abs F, outRB [] [] [] [] 0, .cells 38 [.p 0 (.at 0)], .cells 27 [.i .u32 (.ex root)]]⟩) (LeSt.mk' [0, 1, 2, 3, 4] (by decide) (by rfl) (by decide) (by cbv) (by cbv)) ?_
  refine Ok.rangeFunc [5] rfl rfl rfl fun y R hR => ?_
  conv => cbv
  refine into I89ok 6 ?_
  conv => cbv
  refine OkCall.by_specM (all_spec n f root hn hm hr hcols) [0] (by decide) (by cbv) (by cbv) ?_
  rintro q v hp1 new ⟨rfl, rfl, cap, jc, hcap, hjc, rfl, rfl⟩
  conv => cbv
  refine OkLoop.gen fun Q1 hQ1 => ?_
  refine byInv I89ok 6 ⟨[], 0⟩ (fun a : Int × (List Int × List Int × List Int × List Int) × Nat => ⟨[(10, .i .i64 (.ex a.1)), (9, .i .i64 (.ex (ofN m))), (8, .slc 7 0 4 (.lit 0) (.ex m) (.ex cap)), (0, .fn (.yield y) [] [])], [memB n f, .abs F, outRB a.2.1.1 a.2.1.2.1 a.2.1.2.2.1 a.2.1.2.2.2 a.2.2, .cells 38 [.p 0 (.at 0)], .cells 27 [.i .u32 (.ex root)], .obj (.deferred (some [])), .av [.p 2 (.at 0)] (R .ready none), .cells 186 [.rows 4 (.ex m) (fndG A0 Q0 F0), .junk 4 (.ex jc)]]⟩)
    (fun a => (m - a.1).toNat) (fun a => 0 ≤ a.1 ∧ a.1 ≤ m ∧ RCols (mergeP ((allP n f root).take a.1.toNat)) a.2.1.1 a.2.1.2.1 a.2.1.2.2.1 a.2.1.2.2.2 a.2.2) false (0, ([], [], [], []), 0) (by kernel_rfl) ⟨by omega, by omega, RCols.nil⟩ (LeSt.mk' [0, 1, 2, 3, 4, 5, 6, 8] (by decide) (by rfl) (by decide) (by cbv) ?_) ?_
  · conv => cbv
    exact ⟨⟨fun j _ => fndG_le _ _ _ _ _, trivial⟩, trivial⟩
  rintro ⟨z, ⟨V, PH, G, P⟩, k⟩ ⟨hz0, hz1, hco⟩
  simp only at hz0 hz1 hco
  obtain ⟨z1, hz1'⟩ : ∃ x, z + 1 = x := ⟨_, rfl⟩
  obtain ⟨k1, hk1⟩ : ∃ x, x = k + 1 := ⟨_, rfl⟩
  obtain ⟨kl, hkl⟩ : ∃ x, x = k - 1 := ⟨_, rfl⟩
  obtain ⟨xz, hxz⟩ : ∃ x : Int × Int, x = (allP n f root).getD z.toNat (0, 0) := ⟨_, rfl⟩
  obtain ⟨ol, hol⟩ : ∃ x, x = mergeP ((allP n f root).take z.toNat) := ⟨_, rfl⟩
  obtain ⟨av, hav⟩ : ∃ x, x = xz.1 := ⟨_, rfl⟩
  obtain ⟨aph, haph⟩ : ∃ x, x = decF xz.2 * 4096 := ⟨_, rfl⟩
  obtain ⟨ap, hap⟩ : ∃ x, x = decP xz.2 := ⟨_, rfl⟩
  obtain ⟨VS, hVS⟩ : ∃ x, x = V ++ [av] := ⟨_, rfl⟩
  obtain ⟨PHS, hPHS⟩ : ∃ x, x = PH ++ [aph] := ⟨_, rfl⟩
  obtain ⟨GS, hGS⟩ : ∃ x : List Int, x = G ++ [1] := ⟨_, rfl⟩
  obtain ⟨PS, hPS⟩ : ∃ x, x = P ++ [ap] := ⟨_, rfl⟩
  obtain ⟨g1, hg1⟩ : ∃ x, x = G.getD kl 0 + 1 := ⟨_, rfl⟩
  obtain ⟨GL, hGL⟩ : ∃ x : List Int, x = G.set kl g1 := ⟨_, rfl⟩
  rw [← hol] at hco
  conv => cbv
  refine Br.mk (fun hc => ?_) (fun hc => ?_)
  · have hc : z < (m : Int) := by have h : z < ofN m := ltI_t.1 hc; rw [ofN_eq] at h; exact h
    conv => cbv
    refine ⟨inR.mk hz0 hc, nLt.mk (by simp only [leafs]; omega), ?_⟩
    refine YCall.of hR 6 rfl rfl rfl (kcode (I := []) trivial 3 ⟨[], 0⟩ (by kernel_rfl) ?_)
    conv => cbv
    refine Ok.unfold 2 rfl ?_
    rintro ol ⟨cap2, jc2, hcap2, hjc2, rfl⟩
    conv => cbv
    refine kcode (I := []) trivial 6 ⟨[], 0⟩ (by kernel_rfl) ?_
    conv => cbv
    have hzl : z.toNat < (allP n f root).length := by omega
    have hxm : xz ∈ allP n f root := by rw [hxz, List.getD_eq_getElem?_getD, List.getElem?_eq_getElem hzl]; exact List.getElem_mem hzl
    have htk : (allP n f root).take z1.toNat = (allP n f root).take z.toNat ++ [xz] := by
      rw [show z1.toNat = z.toNat + 1 by omega, List.take_add_one, List.getElem?_eq_getElem hzl, hxz, List.getD_eq_getElem?_getD, List.getElem?_eq_getElem hzl]; rfl
    have hmg : mergeP ((allP n f root).take z1.toNat) = mgStep ol xz := by rw [htk, mergeP_snoc, hol]
    obtain ⟨hb1, hb2, hb3⟩ := allP_bd hm xz hxm
    have hAz : gi A0 (toN z) = av := by rw [gi_eq, toN_eq, hA0, hav, hxz, List.getD_eq_getElem?_getD, List.getD_eq_getElem?_getD, List.getElem?_map, List.getElem?_eq_getElem hzl]; rfl
    have hQz : gi Q0 (toN z) = ap := by rw [gi_eq, toN_eq, hQ0, hap, hxz, List.getD_eq_getElem?_getD, List.getD_eq_getElem?_getD, List.getElem?_map, List.getElem?_eq_getElem hzl]; rfl
    have hFz : shlI .u32 (gi F0 (toN z)) 12 = aph := by
      rw [gi_eq, toN_eq, hF0, haph, hxz, List.getD_eq_getElem?_getD, List.getD_eq_getElem?_getD, List.getElem?_map, List.getElem?_eq_getElem hzl]
      have h2 : xz = (allP n f root)[z.toNat] := by rw [hxz, List.getD_eq_getElem?_getD, List.getElem?_eq_getElem hzl]; rfl
      rw [h2] at hb2
      simp only [Option.map_some, Option.getD_some]
      rw [shlI_eq, wrap_u32]
      show _ * 4096 % _ = _
      omega
    have hlk := hco.k
    have hcl : (V.length = k ∧ PH.length = k) ∧ G.length = k ∧ P.length = k := by rw [hco.v, hco.ph, hco.g, hco.p, hco.k]; simp
    have hk20 : k ≤ 1048576 := by have := mergeP_len ((allP n f root).take z.toNat); rw [← hol, List.length_take] at this; omega
    have hsn : RCols (ol ++ [rOf xz]) VS PHS GS PS k1 := by rw [hVS, hPHS, hGS, hPS, hk1, hav, haph, hap]; exact hco.snoc (rOf xz)
    have hrow : ∀ j, j < k + 1 → ∀ (τ τ' : Nat → Nat), leL (jn (fun j => renL τ (rngF V PH G P j)) (fun _ => [.i .u32 (.ex (gi A0 (toN z))), .i .u32 (.ex (shlI .u32 (gi F0 (toN z)) 12)), .i .i64 (.lit 1), .i .u8 (.ex (gi Q0 (toN z)))]) k j) (renL τ' (rngF VS PHS GS PS j)) := fun j hj τ τ' => by
      have hlo : ∀ (l : List Int) (x : Int), l.length = k → j < k → gi (l ++ [x]) j = gi l j := fun l x hl h => by rw [gi_eq, gi_eq, List.getD_eq_getElem?_getD, List.getElem?_append_left (by omega), List.getD_eq_getElem?_getD]
      have hhi : ∀ (l : List Int) (x : Int), l.length = k → j = k → gi (l ++ [x]) j = x := fun l x hl h => by rw [gi_eq, List.getD_eq_getElem?_getD, h, ← hl, List.getElem?_concat_length]; rfl
      rw [jn_eq]
      show leL (if j < k then renL τ (rngF V PH G P j) else _) _
      by_cases hjn : j < k
      · rw [if_pos hjn]
        refine ⟨⟨rfl, ?_⟩, ⟨rfl, ?_⟩, ⟨rfl, ?_⟩, ⟨rfl, ?_⟩, trivial⟩
        · show gi VS j = gi V j
          rw [hVS, hlo _ _ hcl.1.1 hjn]
        · show gi PHS j = gi PH j
          rw [hPHS, hlo _ _ hcl.1.2 hjn]
        · show gi GS j = gi G j
          rw [hGS, hlo _ _ hcl.2.1 hjn]
        · show gi PS j = gi P j
          rw [hPS, hlo _ _ hcl.2.2 hjn]
      · rw [if_neg hjn]
        have hjk : j = k := by omega
        refine ⟨⟨rfl, ?_⟩, ⟨rfl, ?_⟩, ⟨rfl, ?_⟩, ⟨rfl, ?_⟩, trivial⟩
        · show gi VS j = gi A0 (toN z)
          rw [hVS, hhi _ _ hcl.1.1 hjk, hAz]
        · show gi PHS j = shlI .u32 (gi F0 (toN z)) 12
          rw [hPHS, hhi _ _ hcl.1.2 hjk, hFz]
        · show gi GS j = 1
          rw [hGS, hhi _ _ hcl.2.1 hjk]
        · show gi PS j = gi Q0 (toN z)
          rw [hPS, hhi _ _ hcl.2.2 hjk, hQz]
    refine Br.mk (fun hk => ?_) (fun hk => ?_)
    · have hk : 0 < k := by have h : 0 < ofN k := ltI_t.1 hk; rw [ofN_eq] at h; omega
      conv => cbv
      have hkl1 : kl + 1 = k := by omega
      have hidx : subI .i64 (ofN k) 1 = kl := by rw [ofN_eq, subI_eq, IntWalk.i64_in _ (by have := hco.k; have := mergeP_len ((allP n f root).take z.toNat); rw [← hol, List.length_take] at this; omega)]; omega
      have hin : inR (subI .i64 (ofN k) 1) k := inR.mk (by rw [hidx]; omega) (by rw [hidx]; omega)
      have hnl : nLt (toN (subI .i64 (ofN k) 1)) k := nLt.mk (by rw [hidx, toN_eq]; omega)
      obtain ⟨q, hq⟩ : ∃ q, ol.getLast? = some q := by
        have := hco.k
        cases h : ol.getLast? with
        | none => rw [List.getLast?_eq_none_iff] at h; rw [h] at this; simp at this; omega
        | some q => exact ⟨q, rfl⟩
      obtain ⟨_, l1, l2, l3, l4⟩ := hco.last hq
      obtain ⟨⟨xq, hxq, m1, m2, m3⟩, m4, m5⟩ := mergeP_mem _ q (by rw [← hol]; exact List.mem_of_getLast? hq)
      obtain ⟨hq1, hq2, hq3⟩ := allP_bd hm xq (List.mem_of_mem_take hxq)
      have hlen : ((List.take z.toNat (allP n f root)).length : Int) ≤ 1048576 := by rw [List.length_take]; omega
      obtain ⟨qv, qph, qg, qp⟩ := q
      simp only at l1 l2 l3 l4 m1 m2 m3 m4 m5
      rw [← hkl] at l1 l2 l3 l4
      have e1 : gi V (toN (subI .i64 (ofN k) 1)) = qv := by rw [gi_eq, hidx, toN_eq, ← l1]; congr 1
      have e2 : gi PH (toN (subI .i64 (ofN k) 1)) = qph := by rw [gi_eq, hidx, toN_eq, ← l2]; congr 1
      have e3 : gi G (toN (subI .i64 (ofN k) 1)) = qg := by rw [gi_eq, hidx, toN_eq, ← l3]; congr 1
      have e4 : gi P (toN (subI .i64 (ofN k) 1)) = qp := by rw [gi_eq, hidx, toN_eq, ← l4]; congr 1
      obtain ⟨b, hb⟩ : ∃ b, b = folB ⟨qv, qph, qg, qp⟩ (rOf xz) := ⟨_, rfl⟩
      refine ⟨hin, hnl, ?_⟩
      refine OkCall.by_spec (follows_spec ⟨qv, qph, qg, qp⟩ (rOf xz) ⟨by simp only; omega, by simp only; omega, by simp only; omega⟩ ⟨hb1, by simp only [rOf]; omega⟩ hb (v := qv) (ph := qph) (g := qg) (p := qp) (v' := av) (ph' := aph) (g' := 1) (p' := ap) rfl rfl rfl rfl hav haph hap) [] (by decide) ?_ (by cbv) ?_
      · conv => cbv
        exact ⟨⟨e1.symm, e2.symm, e3.symm, e4.symm, trivial⟩, ⟨hAz.symm, hFz.symm, hQz.symm, trivial⟩, trivial⟩
      conv => cbv
      refine Br.mk (fun hbb => ?_) (fun hbb => ?_)
      · have hbb : b = true := hbb
        conv => cbv
        have hst : RCols (mergeP ((allP n f root).take z1.toNat)) V PH GL P k := by
          rw [hmg, mgStep, hq]
          simp only
          rw [← hb, hbb, if_pos rfl, hGL, hg1, l3, hkl]
          exact hco.long hq
        refine ⟨hin, hnl, hin, hnl, (z1, (V, PH, GL, P), k), ⟨⟨by show 0 ≤ z1; omega, by show z1 ≤ (m : Int); omega, hst⟩, by show ((m : Int) - z1).toNat < ((m : Int) - z).toNat; omega⟩, _, (HImp.fold (S := outR V PH GL P k) 2 [10] [.cells 22 [.slc 1 0 4 (.lit 0) (.ex k) (.ex cap2)], .cells 31 [.rows 4 (.ex k) (rngF V PH GL P), .junk 4 (.ex jc2)]] (by decide) ?_ ⟨cap2, jc2, hcap2, hjc2, rfl⟩).ext, LeSt.mk' [0, 1, 2, 3, 4, 5, 6, 7] (by decide) (by rfl) (by decide) ?_ ?_⟩
        · conv => cbv
          refine ⟨⟨fun j hj => ?_, trivial⟩, trivial⟩
          have hj : j < k := hj
          show leL (upd (fun j => renL _ (rngF V PH G P j)) (toN (subI .i64 (ofN k) 1)) [.i .u32 (.ex (gi V (toN (subI .i64 (ofN k) 1)))), .i .u32 (.ex (gi PH (toN (subI .i64 (ofN k) 1)))), .i .i64 (.ex (addI .i64 (gi G (toN (subI .i64 (ofN k) 1))) 1)), .i .u8 (.ex (gi P (toN (subI .i64 (ofN k) 1))))] j) (renL _ (rngF V PH GL P j))
          rw [upd_eq, e1, e2, e3, e4]
          have hki : toN (subI .i64 (ofN k) 1) = kl := by rw [hidx, toN_eq]; omega
          rw [hki]
          show leL (if j = kl then _ else renL _ (rngF V PH G P j)) _
          by_cases hjk : j = kl
          · rw [if_pos hjk, hjk]
            refine ⟨⟨rfl, ?_⟩, ⟨rfl, ?_⟩, ⟨rfl, ?_⟩, ⟨rfl, ?_⟩, trivial⟩
            · show gi V kl = qv
              rw [gi_eq]; exact l1
            · show gi PH kl = qph
              rw [gi_eq]; exact l2
            · show gi GL kl = addI .i64 qg 1
              rw [gi_eq, hGL, List.getD_eq_getElem?_getD, List.getElem?_set_self (by omega), hg1, l3, addI_eq, IntWalk.i64_in _ (by omega)]; rfl
            · show gi P kl = qp
              rw [gi_eq]; exact l4
          · rw [if_neg hjk]
            refine ⟨⟨rfl, rfl⟩, ⟨rfl, rfl⟩, ⟨rfl, ?_⟩, ⟨rfl, rfl⟩, trivial⟩
            show gi GL j = gi G j
            rw [gi_eq, gi_eq, hGL, List.getD_eq_getElem?_getD, List.getElem?_set_ne (Ne.symm hjk), List.getD_eq_getElem?_getD]
        · conv => cbv
          refine ⟨?_, trivial⟩
          show z1 = addI .i64 z 1
          rw [addI_eq, IntWalk.i64_in _ (by omega), hz1']
        · conv => cbv
          exact ⟨⟨fun j _ => fndG_le _ _ _ _ _, trivial⟩, trivial⟩
      · have hbb : b = false := hbb
        conv => cbv
        have hst : RCols (mergeP ((allP n f root).take z1.toNat)) VS PHS GS PS k1 := by
          rw [hmg, mgStep, hq]
          simp only
          rw [← hb, hbb, if_neg (by decide)]
          exact hsn
        refine ⟨by show eqN k k; rw [eqN_eq], by show eqN (addN k jc2) cap2; rw [eqN_eq, addN_eq]; omega, by show apOk (addN k 1) 24; rw [apOk_eq, addN_eq]; omega, AllN.mk fun cap3 hcap3 => ?_⟩
        have hcap3 : k1 ≤ cap3 := by have h : addN k 1 ≤ cap3 := hcap3; rw [addN_eq] at h; omega
        obtain ⟨jc3, hjc3⟩ : ∃ x, cap3 - k1 = x := ⟨_, rfl⟩
        conv => cbv
        refine ⟨(z1, (VS, PHS, GS, PS), k1), ⟨⟨by show 0 ≤ z1; omega, by show z1 ≤ (m : Int); omega, hst⟩, by show ((m : Int) - z1).toNat < ((m : Int) - z).toNat; omega⟩, _, (HImp.fold (S := outR VS PHS GS PS k1) 2 [14] [.cells 22 [.slc 1 0 4 (.lit 0) (.ex k1) (.ex cap3)], .cells 31 [.rows 4 (.ex k1) (rngF VS PHS GS PS), .junk 4 (.ex jc3)]] (by decide) ?_ ⟨cap3, jc3, hcap3, hjc3, rfl⟩).ext, LeSt.mk' [0, 1, 2, 3, 4, 5, 6, 7] (by decide) (by rfl) (by decide) ?_ ?_⟩
        · conv => cbv
          refine ⟨⟨⟨?_, trivial⟩, trivial⟩, ⟨⟨?_, fun j hj => ?_⟩, ?_, trivial⟩, trivial⟩
          · show k1 = addN k 1
            rw [addN_eq, hk1]
          · show k1 = addN k 1
            rw [addN_eq, hk1]
          · have hj : j < addN k 1 := hj
            rw [addN_eq] at hj
            exact hrow j hj _ _
          · show jc3 = subN cap3 (addN k 1)
            rw [subN_eq, addN_eq, ← hjc3, hk1]
        · conv => cbv
          refine ⟨?_, trivial⟩
          show z1 = addI .i64 z 1
          rw [addI_eq, IntWalk.i64_in _ (by omega), hz1']
        · conv => cbv
          exact ⟨⟨fun j _ => fndG_le _ _ _ _ _, trivial⟩, trivial⟩
    · have hk : k = 0 := by have h : ofN k ≤ 0 := ltI_f.1 hk; rw [ofN_eq] at h; omega
      conv => cbv
      have hst : RCols (mergeP ((allP n f root).take z1.toNat)) VS PHS GS PS k1 := by
        have he : ol = [] := by rw [hk] at hlk; exact List.length_eq_zero_iff.1 hlk.symm
        rw [he] at hmg hsn
        rw [hmg]
        exact hsn
      refine ⟨by show eqN k k; rw [eqN_eq], by show eqN (addN k jc2) cap2; rw [eqN_eq, addN_eq]; omega, by show apOk (addN k 1) 24; rw [apOk_eq, addN_eq]; omega, AllN.mk fun cap3 hcap3 => ?_⟩
      have hcap3 : k1 ≤ cap3 := by have h : addN k 1 ≤ cap3 := hcap3; rw [addN_eq] at h; omega
      obtain ⟨jc3, hjc3⟩ : ∃ x, cap3 - k1 = x := ⟨_, rfl⟩
      conv => cbv
      refine ⟨(z1, (VS, PHS, GS, PS), k1), ⟨⟨by show 0 ≤ z1; omega, by show z1 ≤ (m : Int); omega, hst⟩, by show ((m : Int) - z1).toNat < ((m : Int) - z).toNat; omega⟩, _, (HImp.fold (S := outR VS PHS GS PS k1) 2 [13] [.cells 22 [.slc 1 0 4 (.lit 0) (.ex k1) (.ex cap3)], .cells 31 [.rows 4 (.ex k1) (rngF VS PHS GS PS), .junk 4 (.ex jc3)]] (by decide) ?_ ⟨cap3, jc3, hcap3, hjc3, rfl⟩).ext, LeSt.mk' [0, 1, 2, 3, 4, 5, 6, 7] (by decide) (by rfl) (by decide) ?_ ?_⟩
      · conv => cbv
        refine ⟨⟨⟨?_, trivial⟩, trivial⟩, ⟨⟨?_, fun j hj => ?_⟩, ?_, trivial⟩, trivial⟩
        · show k1 = addN k 1
          rw [addN_eq, hk1]
        · show k1 = addN k 1
          rw [addN_eq, hk1]
        · have hj : j < addN k 1 := hj
          rw [addN_eq] at hj
          exact hrow j hj _ _
        · show jc3 = subN cap3 (addN k 1)
          rw [subN_eq, addN_eq, ← hjc3, hk1]
      · conv => cbv
        refine ⟨?_, trivial⟩
        show z1 = addI .i64 z 1
        rw [addI_eq, IntWalk.i64_in _ (by omega), hz1']
      · conv => cbv
        exact ⟨⟨fun j _ => fndG_le _ _ _ _ _, trivial⟩, trivial⟩
  · have hc : (m : Int) ≤ z := by have h : ofN m ≤ z := ltI_f.1 hc; rw [ofN_eq] at h; exact h
    have hzm : z.toNat = (allP n f root).length := by omega
    rw [hol, hzm, List.take_length] at hco
    conv => cbv
    subst hQ1
    conv => cbv
    refine ⟨.normal, ?_⟩
    conv => cbv
    refine Ok.unfold 2 rfl ?_
    rintro ol ⟨cap2, jc2, hcap2, hjc2, rfl⟩
    refine kcode I29ok 6 ⟨[], 0⟩ (by kernel_rfl) ?_
    conv => cbv
    obtain ⟨c1, c2, c3, c4, c5⟩ := hco
    obtain ⟨d1, d2, d3, d4, d5⟩ := hc0
    have hkk : k = k0 := by rw [c5, d5]
    have hV : V = V0 := by rw [c1, d1]
    have hPH : PH = PH0 := by rw [c2, d2]
    have hG : G = G0 := by rw [c3, d3]
    have hP : P = P0 := by rw [c4, d4]
    subst hkk hV hPH hG hP
    refine ⟨_, _, _, _, ⟨rfl, rfl, cap2, jc2, hcap2, hjc2, rfl, rfl⟩, rfl, (LeOut.mk' [0, 1, 8] (by decide) (by rfl) (by decide) (by cbv) ?_).two⟩
    conv => cbv
    exact ⟨⟨fun j _ => rngF_le _ _, trivial⟩, trivial⟩
end Go.Proofs.Ytnefllaeleihcaa
end

/-
  TablesNeeds: the walk.
-/
section
namespace Go.Proofs.Ytnefllaeleihcaa
open Go Go.Vex
set_option maxRecDepth 20000
set_option maxHeartbeats 4000000
noncomputable def I3 : FnT := [(3, fi Try.f3 ⟨[1000004], 0⟩)]
theorem I3ok : FnsOk kit I3 := ⟨fo3 _, trivial⟩
noncomputable def c3 : Code := (codeAt 4 (Try.f3.body.getD .skip)).getD .skip
/-- Columns of ranges. -/
structure ColsOk (A B C D : List Int) (n : Nat) : Prop where
  la : A.length = n
  lb : B.length = n
  lc : C.length = n
  ld : D.length = n
  a : ∀ z ∈ A, 0 ≤ z ∧ z < 4294967296
  b : ∀ z ∈ B, 0 ≤ z ∧ z < 4294967296
  c : ∀ z ∈ C, -9223372036854775808 ≤ z ∧ z < 9223372036854775808
  d : ∀ z ∈ D, 0 ≤ z ∧ z < 256
theorem ColsOk.ok {A B C D : List Int} {n m : Nat} (h : ColsOk A B C D n) (hm : m < 4611686018427387904) : RgsOk ⟨A, B, C, D⟩ m :=
  ⟨col_in (by decide) h.a, col_in (by decide) h.b, col_in (by decide) h.c, col_in (by decide) h.d, hm⟩
theorem ColsOk.zero {Z N : List Int} {n : Nat} (hZ : Z = List.replicate n 0) (hN : N = List.replicate n (-99)) : ColsOk Z Z N Z n := by
  subst hZ hN
  refine ⟨by simp, by simp, by simp, by simp, ?_, ?_, ?_, ?_⟩ <;> (intro z hz; rw [List.eq_of_mem_replicate hz]; decide)
theorem mem_set {l : List Int} {i : Nat} {x z : Int} (h : z ∈ l.set i x) : z ∈ l ∨ z = x := List.mem_or_eq_of_mem_set h
theorem ColsOk.set {A B C D : List Int} {n : Nat} (h : ColsOk A B C D n) (i : Nat) {x y z t : Int} (hx : 0 ≤ x ∧ x < 4294967296) (hy : 0 ≤ y ∧ y < 4294967296) (hz : -9223372036854775808 ≤ z ∧ z < 9223372036854775808) (ht : 0 ≤ t ∧ t < 256) : ColsOk (A.set i x) (B.set i y) (C.set i z) (D.set i t) n := by
  refine ⟨by simp [h.la], by simp [h.lb], by simp [h.lc], by simp [h.ld], fun u hu => ?_, fun u hu => ?_, fun u hu => ?_, fun u hu => ?_⟩
  · rcases mem_set hu with hu | rfl; exact h.a u hu; exact hx
  · rcases mem_set hu with hu | rfl; exact h.b u hu; exact hy
  · rcases mem_set hu with hu | rfl; exact h.c u hu; exact hz
  · rcases mem_set hu with hu | rfl; exact h.d u hu; exact ht
theorem upd_rng2 {A B C D : List Int} {n : Nat} (h : ColsOk A B C D n) (i a : Nat) (hi : i = a) (ha : a < n) (x y z t : Int) (τ : Nat → Nat) (j : Nat) (hj : j < n) : leL (upd (rngF A B C D) i [.i .u32 (.ex x), .i .u32 (.lit y), .i .i64 (.lit z), .i .u8 (.lit t)] j) (renL τ (rngF (A.set a x) (B.set a y) (C.set a z) (D.set a t) j)) := by
  subst hi
  rw [upd_eq]
  show leL (if j = i then _ else rngF A B C D j) _
  have h1 := h.la; have h2 := h.lb; have h3 := h.lc; have h4 := h.ld
  by_cases e : j = i
  · subst e
    rw [if_pos rfl]
    refine ⟨⟨rfl, ?_⟩, ⟨rfl, ?_⟩, ⟨rfl, ?_⟩, ⟨rfl, ?_⟩, trivial⟩ <;> (show gi _ _ = _; rw [gi_eq, List.getD_eq_getElem?_getD, List.getElem?_set_self (by omega)]; rfl)
  · rw [if_neg e]
    refine ⟨⟨rfl, ?_⟩, ⟨rfl, ?_⟩, ⟨rfl, ?_⟩, ⟨rfl, ?_⟩, trivial⟩ <;> (show gi _ _ = gi _ _; rw [gi_eq, gi_eq, List.getD_eq_getElem?_getD, List.getD_eq_getElem?_getD, List.getElem?_set_ne (Ne.symm e)])
theorem extL_in {Q : Int → Prop} (h0 : Q 0) {m : Nat} {x : Int} (hx : Q x) {V : List Int} (h : ∀ j, Q (V.getD j 0)) : ∀ z ∈ extL m x V, Q z := by
  intro z hz
  rcases List.mem_append.1 hz with hz | hz
  · obtain ⟨j, _, rfl⟩ := List.mem_map.1 hz; exact h j
  · rw [List.eq_of_mem_replicate hz]; exact hx
theorem need_ext (L L' : Rgs) (m : Nat) (h : ∀ j, j < m → L.V.getD j 0 = L'.V.getD j 0 ∧ L.PH.getD j 0 = L'.PH.getD j 0 ∧ L.G.getD j 0 = L'.G.getD j 0 ∧ L.P.getD j 0 = L'.P.getD j 0) : needP L m = needP L' m := by
  have h1 : (List.range m).any (badR L) = (List.range m).any (badR L') := by
    rw [Bool.eq_iff_iff, List.any_eq_true, List.any_eq_true]
    constructor <;> (rintro ⟨j, hj, hb⟩; refine ⟨j, hj, ?_⟩; obtain ⟨e1, e2, e3, e4⟩ := h j (List.mem_range.1 hj); simp only [badR, e1, e2, e3, e4] at hb ⊢; exact hb)
  have h2 : keysOf L m = keysOf L' m := by
    have : allFsts L m = allFsts L' m := by
      unfold allFsts
      rw [List.flatMap_def, List.flatMap_def]
      congr 1
      refine List.map_congr_left fun j hj => ?_
      obtain ⟨e1, e2, e3, e4⟩ := h j (List.mem_range.1 hj)
      simp only [fstsOf, e1, e3]
    rw [keysOf, keysOf, this]
  rw [needP, needP, h1, h2]
theorem ns1 {l l' : List SV} : noSees 0 [.ro l] [.ro l'] := fun j k hj hk => by
  match j, hj with
  | (n + 1), _ => simp at hk
theorem nsn : noSeesN [] := fun k hk => by simp at hk
theorem needs_tail (V PH G P : List Int) (m c : Nat) (hL : RgsOk ⟨V, PH, G, P⟩ m) (hm : m ≤ 20) (A : Option (Nat × Nat) → Vex.Own → World → Prop) :
    Ok kit 78 2 c3 false ⟨[(0, .slc 0 0 4 (.lit 0) (.ex m) (.ex c)), (3, .b (.lit true))], [.ro [.rows 4 (.ex m) (rngF V PH G P)], .abs A]⟩
      (endS tab (fi Try.f3 ⟨[], 0⟩).res fun q v hp' => leV v (.b (.lit true)) ∧ ∃ x : Nat, hp'[x]? = some (.abs A)) := by
  obtain ⟨V1, hV1⟩ : ∃ x, x = extL m 0 V := ⟨_, rfl⟩
  obtain ⟨PH1, hPH1⟩ : ∃ x, x = extL m 0 PH := ⟨_, rfl⟩
  obtain ⟨G1, hG1⟩ : ∃ x, x = extL m (-77) G := ⟨_, rfl⟩
  obtain ⟨P1, hP1⟩ : ∃ x, x = extL m 0 P := ⟨_, rfl⟩
  obtain ⟨m8, hm8⟩ : ∃ x, x = m + 8 := ⟨_, rfl⟩
  obtain ⟨r, hr⟩ : ∃ x, x = needP ⟨V, PH, G, P⟩ m := ⟨_, rfl⟩
  obtain ⟨Z, hZ⟩ : ∃ x : List Int, x = List.replicate m8 0 := ⟨_, rfl⟩
  obtain ⟨N, hN⟩ : ∃ x : List Int, x = List.replicate m8 (-99) := ⟨_, rfl⟩
  have hL1 : RgsOk ⟨V1, PH1, G1, P1⟩ m := ⟨by rw [hV1]; exact col_in (P := fun z => 0 ≤ z ∧ z < 4294967296) ⟨by decide, by decide⟩ (extL_in (Q := fun z => 0 ≤ z ∧ z < 4294967296) ⟨by decide, by decide⟩ ⟨by decide, by decide⟩ hL.v), by rw [hPH1]; exact col_in (P := fun z => 0 ≤ z ∧ z < 4294967296) ⟨by decide, by decide⟩ (extL_in (Q := fun z => 0 ≤ z ∧ z < 4294967296) ⟨by decide, by decide⟩ ⟨by decide, by decide⟩ hL.ph),
    by rw [hG1]; exact col_in (P := fun z => -9223372036854775808 ≤ z ∧ z < 9223372036854775808) ⟨by decide, by decide⟩ (extL_in (Q := fun z => -9223372036854775808 ≤ z ∧ z < 9223372036854775808) ⟨by decide, by decide⟩ ⟨by decide, by decide⟩ hL.g), by rw [hP1]; exact col_in (P := fun z => 0 ≤ z ∧ z < 256) ⟨by decide, by decide⟩ (extL_in (Q := fun z => 0 ≤ z ∧ z < 256) ⟨by decide, by decide⟩ ⟨by decide, by decide⟩ hL.p), hL.m⟩
  have hr1 : r = needP ⟨V1, PH1, G1, P1⟩ m := by
    rw [hr]
    refine need_ext _ _ m fun j hj => ?_
    simp only
    rw [hV1, hPH1, hG1, hP1, extL_lo hj, extL_lo hj, extL_lo hj, extL_lo hj]
    exact ⟨rfl, rfl, rfl, rfl⟩
  refine kcode I3ok 6 ⟨[], 0⟩ (by kernel_rfl) ?_
  conv => cbv
  refine OkCall.by_specM (lent_spec V PH G P m c (by omega) hV1 hPH1 hG1 hP1 hm8) [0] (by decide) (by cbv) ?_ ?_
  · conv => cbv
    exact ⟨⟨fun j _ => rngF_le _ _, trivial⟩, trivial⟩
  rintro q v hp1 new ⟨rfl, rfl, cap, jc, hcap, hjc, rfl, rfl⟩
  conv => cbv
  have htm : toN (ofN m) = m := by rw [ofN_eq, toN_eq]; omega
  refine ⟨by show nLe m8 cap; rw [nLe_eq]; exact hcap, by show leR (ofN m) cap; rw [leR_eq, ofN_eq]; omega, ?_⟩
  refine OkCall.by_spec (Spec1.lend (need_spec V1 PH1 G1 P1 m cap hL1 hr1) 0 31 [.rows 4 (.ex m8) (rngF V1 PH1 G1 P1), .junk 4 (.ex jc)] rfl rfl (Pre.rows (by omega)) ns1 nsn) [3] (by decide) ?_ ?_ ?_
  · conv => cbv
    refine ⟨⟨?_, trivial⟩, trivial⟩
    show m = toN (ofN m)
    exact htm.symm
  · conv => cbv
    exact ⟨⟨fun j _ => rngF_le _ _, trivial⟩, trivial⟩
  conv => cbv
  refine OkCall.by_spec (kept_spec (jc := jc) V PH G P m c c cap (by omega) hV1 hPH1 hG1 hP1 hm8 hcap hZ hN) [3, 0] (by decide) (by cbv) ?_ ?_
  · conv => cbv
    exact ⟨⟨fun j _ => rngF_le _ _, trivial⟩, ⟨fun j _ => rngF_le _ _, trivial⟩, trivial⟩
  conv => cbv
  refine byInv I3ok 6 ⟨[], 0⟩ (fun a : Int × List Int × List Int × List Int × List Int => ⟨[(7, .i .i64 (.ex a.1)), (6, .b (.lit true)), (5, .i .i64 (.ex r)), (4, .slc 2 0 4 (.lit 0) (.ex m8) (.ex cap)), (0, .slc 0 0 4 (.lit 0) (.ex m) (.ex c)), (3, .b (.lit true))], [.ro [.rows 4 (.ex m) (rngF V PH G P)], .abs A, .cells 31 [.rows 4 (.ex m8) (rngF a.2.1 a.2.2.1 a.2.2.2.1 a.2.2.2.2), .junk 4 (.ex jc)]]⟩)
    (fun a => (m - a.1).toNat) (fun a => 0 ≤ a.1 ∧ a.1 ≤ m ∧ ColsOk a.2.1 a.2.2.1 a.2.2.2.1 a.2.2.2.2 m8) false (0, Z, Z, N, Z) (by kernel_rfl) ⟨by omega, by omega, ColsOk.zero hZ hN⟩ (LeSt.mk' [0, 1, 3] (by decide) (by rfl) (by decide) (by cbv) ?_) ?_
  · conv => cbv
    exact ⟨⟨fun j _ => rngF_le _ _, trivial⟩, ⟨fun j _ => rngF_le _ _, trivial⟩, trivial⟩
  rintro ⟨y, A2, B2, C2, D2⟩ ⟨hy0, hy1, hco⟩
  simp only at hy0 hy1 hco
  obtain ⟨y1, hy1'⟩ : ∃ x, x = y + 1 := ⟨_, rfl⟩
  obtain ⟨w, hw⟩ : ∃ x, x = shlI .u32 (convI .u32 y) 22 := ⟨_, rfl⟩
  have hwu : 0 ≤ w ∧ w < 4294967296 := by rw [hw, shlI_eq, wrap_u32]; omega
  obtain ⟨A3, hA3⟩ : ∃ x, x = A2.set y.toNat w := ⟨_, rfl⟩
  obtain ⟨B3, hB3⟩ : ∃ x, x = B2.set y.toNat 0 := ⟨_, rfl⟩
  obtain ⟨C3, hC3⟩ : ∃ x, x = C2.set y.toNat 1 := ⟨_, rfl⟩
  obtain ⟨D3, hD3⟩ : ∃ x, x = D2.set y.toNat 1 := ⟨_, rfl⟩
  obtain ⟨r2, hr2⟩ : ∃ x, x = needP ⟨A2, B2, C2, D2⟩ m := ⟨_, rfl⟩
  conv => cbv
  refine Br.mk (fun hd => ?_) (fun hd => ?_)
  · have hd : y < (m : Int) := by have h : y < ofN m := ltI_t.1 hd; rw [ofN_eq] at h; exact h
    have hco1 : ColsOk A3 B3 C3 D3 m8 := by rw [hA3, hB3, hC3, hD3]; exact hco.set _ hwu (by decide) (by decide) (by decide)
    conv => cbv
    refine ⟨inR.mk (by omega) (by omega), nLt.mk (by simp only [leafs]; omega), (y1, A3, B3, C3, D3), ⟨⟨by show 0 ≤ y1; omega, by show y1 ≤ (m : Int); omega, hco1⟩, by show ((m : Int) - y1).toNat < ((m : Int) - y).toNat; omega⟩, _, (HImp.refl _).ext, LeSt.mk' [0, 1, 2] (by decide) (by rfl) (by decide) ?_ ?_⟩
    · conv => cbv
      refine ⟨?_, trivial⟩
      show y1 = addI .i64 y 1
      rw [addI_eq, IntWalk.i64_in _ (by omega), hy1']
    · conv => cbv
      refine ⟨⟨fun j _ => rngF_le _ _, trivial⟩, ⟨fun j hj => ?_, trivial⟩, trivial⟩
      show leL (upd (rngF A2 B2 C2 D2) (toN y) [.i .u32 (.ex (shlI .u32 (convI .u32 y) 22)), .i .u32 (.lit 0), .i .i64 (.lit 1), .i .u8 (.lit 1)] j) (renL _ (rngF A3 B3 C3 D3 j))
      rw [hA3, hB3, hC3, hD3, ← hw]
      exact upd_rng2 hco (toN y) y.toNat (toN_eq y) (by omega) w 0 1 1 _ j hj
  · have hd : (m : Int) ≤ y := by have h : ofN m ≤ y := ltI_f.1 hd; rw [ofN_eq] at h; exact h
    have hL2 := hco.ok (m := m) (by omega)
    conv => cbv
    refine ⟨by show nLe m8 cap; rw [nLe_eq]; exact hcap, by show leR (ofN m) cap; rw [leR_eq, ofN_eq]; omega, ?_⟩
    refine OkCall.by_spec (Spec1.lend (need_spec A2 B2 C2 D2 m cap hL2 hr2) 0 31 [.rows 4 (.ex m8) (rngF A2 B2 C2 D2), .junk 4 (.ex jc)] rfl rfl (Pre.rows (by omega)) ns1 nsn) [2] (by decide) ?_ ?_ ?_
    · conv => cbv
      refine ⟨⟨?_, trivial⟩, trivial⟩
      show m = toN (ofN m)
      exact htm.symm
    · conv => cbv
      exact ⟨⟨fun j _ => rngF_le _ _, trivial⟩, trivial⟩
    conv => cbv
    refine ⟨by show nLe m8 cap; rw [nLe_eq]; exact hcap, by show leR (ofN m) cap; rw [leR_eq, ofN_eq]; omega, ?_⟩
    refine OkCall.by_spec (Spec1.lend (rneed_spec A2 B2 C2 D2 m cap hL2 hr2) 0 31 [.rows 4 (.ex m8) (rngF A2 B2 C2 D2), .junk 4 (.ex jc)] rfl rfl (Pre.rows (by omega)) ns1 nsn) [2] (by decide) ?_ ?_ ?_
    · conv => cbv
      refine ⟨⟨?_, trivial⟩, trivial⟩
      show m = toN (ofN m)
      exact htm.symm
    · conv => cbv
      exact ⟨⟨fun j _ => rngF_le _ _, trivial⟩, trivial⟩
    conv => cbv
    refine OkCall.by_spec tnew_nil [] (by decide) (by cbv) trivial ?_
    conv => cbv
    refine Br.yes (show eqI r2 r2 = true from eqI_t.2 rfl) ?_
    conv => cbv
    refine OkCall.by_spec (rneed_spec V PH G P m c hL hr) [0] (by decide) (by cbv) ?_ ?_
    · conv => cbv
      exact ⟨⟨fun j _ => rngF_le _ _, trivial⟩, trivial⟩
    conv => cbv
    refine Br.yes (show eqI r r = true from eqI_t.2 rfl) ?_
    conv => cbv
    exact ⟨1, rfl⟩
theorem needs_walk : opnArgs tab 9 [22] 0 (lawK2 3) := by
  conv => cbv
  intro m c hmc hc hbytes
  conv => cbv
  intro V hVl hV
  conv => cbv
  intro PH hPHl hPH
  conv => cbv
  intro G hGl hG
  conv => cbv
  intro P hPl hP
  conv => cbv
  intro A
  have hL : RgsOk ⟨V, PH, G, P⟩ m := ⟨col_in (P := fun z => 0 ≤ z ∧ z < 4294967296) ⟨by decide, by decide⟩ (fun z hz => inK_u32 (hV z hz)), col_in (P := fun z => 0 ≤ z ∧ z < 4294967296) ⟨by decide, by decide⟩ (fun z hz => inK_u32 (hPH z hz)),
    col_in (P := fun z => -9223372036854775808 ≤ z ∧ z < 9223372036854775808) ⟨by decide, by decide⟩ (fun z hz => inK_i64 (hG z hz)), col_in (P := fun z => 0 ≤ z ∧ z < 256) ⟨by decide, by decide⟩ (fun z hz => inK_u8 (hP z hz)), by have hb : m * 24 ≤ reachBytes := hbytes; unfold reachBytes at hb; omega⟩
  refine into I3ok 6 ?_
  conv => cbv
  refine OkCall.by_spec known_spec [] (by decide) (by cbv) trivial ?_
  conv => cbv
  refine Br.mk (fun hd => ?_) (fun hd => ?_)
  · have hd : 20 < ofN m := ltI_t.1 hd
    rw [ofN_eq] at hd
    conv => cbv
    refine ⟨by show nLe m c; rw [nLe_eq]; exact hmc, by show leR 20 c; rw [leR_eq]; omega, ?_⟩
    refine Ok.imp (HImp.at 0 rfl (BImp.roPre (Pre.rows (m := 20) (by omega)))) ?_
    have hL20 : RgsOk ⟨V, PH, G, P⟩ 20 := ⟨hL.v, hL.ph, hL.g, hL.p, by decide⟩
    refine Ok.weak (LeSt.mk' [0, 1] (by decide) (by rfl) (by decide) ?_ ?_) (needs_tail V PH G P 20 c hL20 (Nat.le_refl _) A)
    · conv => cbv
      trivial
    · conv => cbv
      exact ⟨⟨fun j _ => rngF_le _ _, trivial⟩, trivial⟩
  · have hd : ofN m ≤ 20 := ltI_f.1 hd
    rw [ofN_eq] at hd
    conv => cbv
    refine Ok.weak (LeSt.mk' [0, 1] (by decide) (by rfl) (by decide) (by cbv) ?_) (needs_tail V PH G P m c hL (by omega) A)
    conv => cbv
    exact ⟨⟨fun j _ => rngF_le _ _, trivial⟩, trivial⟩
end Go.Proofs.Ytnefllaeleihcaa
end

/-
  TablesAgain: the walk.
-/
section
namespace Go.Proofs.Ytnefllaeleihcaa
open Go Go.Vex
set_option maxRecDepth 20000
set_option maxHeartbeats 4000000
theorem noSee_PM' (T : TypeId) (kvs : List (Int × List Int)) : noSee (.abs (Vex.PM T kvs)) := fun ρ a o w h => by
  obtain ⟨b, ps, _, _, h, _⟩ := h w (agree.refl _ _); rw [h]
theorem noSee_memB' (n : Int) (f : Int → Int) : noSee (memB n f) := .pk fun l ⟨kvs, _, _, e⟩ k hk => by
  subst e
  rcases List.mem_cons.1 hk with rfl | hk
  · exact .cells _ _
  · simp only [List.mem_singleton] at hk; subst hk; exact noSee_PM' _ _
theorem ns3' {n : Int} {f f' : Int → Int} {base pages taken taken' root : Int} {sealed : Bool} {l l' : List SV} : noSees 3 [Proofs.Ytnefllaeleihcaa.memB n f, arB 0 base pages taken sealed, spB 1 root, .ro l] [Proofs.Ytnefllaeleihcaa.memB n f', arB 0 base pages taken' sealed, spB 1 root, .ro l'] := fun j k hj hk => by
  match j, hk with
  | 0, hk => simp only [List.getElem?_cons_zero, Option.some.injEq] at hk; subst hk; exact .inl (noSee_memB' _ _)
  | 1, hk => simp at hk; subst hk; exact .inl (.cells _ _)
  | 2, hk => simp at hk; subst hk; exact .inl (.cells _ _)
  | 3, _ => exact absurd rfl hj
  | (j + 4), hk => simp at hk
noncomputable def O6 : Opt := ⟨[1000020], 0⟩
noncomputable def I6 : FnT := [(6, fi Try.f6 O6), (20, fi Try.f20 ⟨[], 0⟩)]
theorem I6ok : FnsOk kit I6 := ⟨fo6 _, fo20 _, trivial⟩
noncomputable def c6a : Code := (codeAt 20 (Try.f6.body.getD .skip)).getD .skip
theorem again_ends (V PH G P : List Int) (m : Nat) (A : Option (Nat × Nat) → Vex.Own → World → Prop) (rl : List R4) (hbs : Beside rl) (hbd : ∀ r ∈ rl, (0 ≤ r.v ∧ r.v < 4294967296) ∧ (0 ≤ r.ph ∧ r.ph < 4294967296) ∧ (0 ≤ r.g ∧ r.g ≤ 1048576)) (V2 PH2 G2 P2 : List Int) (k2 cap1 : Nat) (hrc : RCols rl V2 PH2 G2 P2 k2) (hk2 : k2 ≤ 1048576) (A0 Q0 F0 : List Int) (w cap3 jc3 cap4 jc4 : Nat) (hw : w ≤ 1048576) {K : Bool → SV → List Blk → Prop}
    (hK : ∀ q v hp', leV v (.b (.lit true)) → (∃ x : Nat, hp'[x]? = some (.abs A)) → K q v hp') :
    Ok kit 165 2 c6a false ⟨[(11, .slc 2 0 4 (.lit 0) (.ex k2) (.ex cap1)), (15, .slc 3 0 4 (.lit 0) (.ex w) (.ex cap3)), (16, .slc 4 0 4 (.lit 0) (.ex w) (.ex cap4))], [.ro [.rows 4 (.ex m) (rngF V PH G P)], .abs A, .ro [.rows 4 (.ex k2) (rngF V2 PH2 G2 P2)], .cells 87 [.rows 4 (.ex w) (fndG A0 Q0 F0), .junk 4 (.ex jc3)], .cells 87 [.rows 4 (.ex w) (fndG A0 Q0 F0), .junk 4 (.ex jc4)]]⟩ (endS tab (fi Try.f6 O6).res K) := by
  refine kcode I6ok 6 ⟨[], 0⟩ (by kernel_rfl) ?_
  conv => cbv
  refine OkLoop.gen fun Q1 hQ1 => ?_
  refine byInv I6ok 6 ⟨[], 0⟩ (fun z : Int => ⟨[(17, .i .i64 (.ex z)), (11, .slc 2 0 4 (.lit 0) (.ex k2) (.ex cap1)), (15, .slc 3 0 4 (.lit 0) (.ex w) (.ex cap3)), (16, .slc 4 0 4 (.lit 0) (.ex w) (.ex cap4))], [.ro [.rows 4 (.ex m) (rngF V PH G P)], .abs A, .ro [.rows 4 (.ex k2) (rngF V2 PH2 G2 P2)], .cells 87 [.rows 4 (.ex w) (fndG A0 Q0 F0), .junk 4 (.ex jc3)], .cells 87 [.rows 4 (.ex w) (fndG A0 Q0 F0), .junk 4 (.ex jc4)]]⟩)
    (fun z => (w - z).toNat) (fun z => 0 ≤ z ∧ z ≤ w) false 0 (by kernel_rfl) ⟨by omega, by omega⟩ (LeSt.mk' [0, 1, 2, 3, 4] (by decide) (by rfl) (by decide) (by cbv) ?_) ?_
  · conv => cbv
    exact ⟨⟨fun j _ => rngF_le _ _, trivial⟩, ⟨fun j _ => rngF_le _ _, trivial⟩, ⟨fun j _ => fndG_le _ _ _ _ _, trivial⟩, ⟨fun j _ => fndG_le _ _ _ _ _, trivial⟩, trivial⟩
  rintro z ⟨hz0, hz1⟩
  obtain ⟨z1, hz1'⟩ : ∃ x, z + 1 = x := ⟨_, rfl⟩
  conv => cbv
  refine Br.mk (fun hc => ?_) (fun hc => ?_)
  · have hc : z < (w : Int) := by have h : z < ofN w := ltI_t.1 hc; rw [ofN_eq] at h; exact h
    have hin : inR z w := inR.mk hz0 hc
    have hnl : nLt (toN z) w := nLt.mk (by rw [toN_eq]; omega)
    conv => cbv
    refine ⟨hin, hnl, hin, hnl, Br.no (by
      show notB (andB (eqI (gi A0 (toN z)) (gi A0 (toN z))) (andB (eqI (gi Q0 (toN z)) (gi Q0 (toN z))) (eqI (gi F0 (toN z)) (gi F0 (toN z))))) = false
      rw [notB_eq, andB_eq, andB_eq, eqI_t.2 rfl, eqI_t.2 rfl, eqI_t.2 rfl]; rfl) ?_⟩
    conv => cbv
    refine ⟨z1, ⟨⟨by show 0 ≤ z1; omega, by show z1 ≤ (w : Int); omega⟩, by show ((w : Int) - z1).toNat < ((w : Int) - z).toNat; omega⟩, _, (HImp.refl _).ext, LeSt.mk' [0, 1, 2, 3, 4] (by decide) (by rfl) (by decide) ?_ ?_⟩
    · conv => cbv
      refine ⟨?_, trivial⟩
      show z1 = addI .i64 z 1
      rw [addI_eq, IntWalk.i64_in _ (by omega), hz1']
    · conv => cbv
      exact ⟨⟨fun j _ => rngF_le _ _, trivial⟩, ⟨fun j _ => rngF_le _ _, trivial⟩, ⟨fun j _ => fndG_le _ _ _ _ _, trivial⟩, ⟨fun j _ => fndG_le _ _ _ _ _, trivial⟩, trivial⟩
  · have hc : (w : Int) ≤ z := by have h : ofN w ≤ z := ltI_f.1 hc; rw [ofN_eq] at h; exact h
    conv => cbv
    subst hQ1
    conv => cbv
    refine OkLoop.gen fun Q2 hQ2 => ?_
    refine byInv I6ok 6 ⟨[], 0⟩ (fun y : Int => ⟨[(18, .i .i64 (.ex y)), (11, .slc 2 0 4 (.lit 0) (.ex k2) (.ex cap1))], [.ro [.rows 4 (.ex m) (rngF V PH G P)], .abs A, .ro [.rows 4 (.ex k2) (rngF V2 PH2 G2 P2)]]⟩)
      (fun y => (k2 - y).toNat) (fun y => 1 ≤ y) false 1 (by kernel_rfl) (by omega) (LeSt.mk' [0, 1, 2] (by decide) (by rfl) (by decide) (by cbv) ?_) ?_
    · conv => cbv
      exact ⟨⟨fun j _ => rngF_le _ _, trivial⟩, ⟨fun j _ => rngF_le _ _, trivial⟩, trivial⟩
    rintro y hy0
    obtain ⟨y1, hy1'⟩ : ∃ x, y + 1 = x := ⟨_, rfl⟩
    conv => cbv
    refine Br.mk (fun hd => ?_) (fun hd => ?_)
    · have hd : y < (k2 : Int) := by have h : y < ofN k2 := ltI_t.1 hd; rw [ofN_eq] at h; exact h
      have hy1 : subI .i64 y 1 = y - 1 := by rw [subI_eq, IntWalk.i64_in _ (by omega)]
      have hin : inR y k2 := inR.mk (by omega) hd
      have hnl : nLt (toN y) k2 := nLt.mk (by rw [toN_eq]; omega)
      have hin1 : inR (subI .i64 y 1) k2 := inR.mk (by rw [hy1]; omega) (by rw [hy1]; omega)
      have hnl1 : nLt (toN (subI .i64 y 1)) k2 := nLt.mk (by rw [hy1, toN_eq]; omega)
      conv => cbv
      obtain ⟨i, hi⟩ : ∃ x : Nat, x = (y - 1).toNat := ⟨_, rfl⟩
      have hlen := hrc.k
      obtain ⟨a, ha⟩ : ∃ a, rl[i]? = some a := ⟨_, List.getElem?_eq_getElem (by omega)⟩
      obtain ⟨b, hb⟩ : ∃ b, rl[i + 1]? = some b := ⟨_, List.getElem?_eq_getElem (by omega)⟩
      obtain ⟨hfol, hlt⟩ := hbs i (by omega) a b ha hb
      obtain ⟨a1, a2, a3⟩ := hbd a (List.mem_of_getElem? ha)
      obtain ⟨b1, b2, b3⟩ := hbd b (List.mem_of_getElem? hb)
      have hca : ∀ g : R4 → Int, gi (rl.map g) (toN (subI .i64 y 1)) = g a := fun g => by rw [gi_eq, hy1, toN_eq, ← hi, List.getD_eq_getElem?_getD, List.getElem?_map, ha]; rfl
      have hcb : ∀ g : R4 → Int, gi (rl.map g) (toN y) = g b := fun g => by rw [gi_eq, toN_eq, show y.toNat = i + 1 by omega, List.getD_eq_getElem?_getD, List.getElem?_map, hb]; rfl
      have ea1 : gi V2 (toN (subI .i64 y 1)) = a.v := by rw [hrc.v]; exact hca _
      have ea2 : gi PH2 (toN (subI .i64 y 1)) = a.ph := by rw [hrc.ph]; exact hca _
      have ea3 : gi G2 (toN (subI .i64 y 1)) = a.g := by rw [hrc.g]; exact hca _
      have ea4 : gi P2 (toN (subI .i64 y 1)) = a.p := by rw [hrc.p]; exact hca _
      have eb1 : gi V2 (toN y) = b.v := by rw [hrc.v]; exact hcb _
      have eb2 : gi PH2 (toN y) = b.ph := by rw [hrc.ph]; exact hcb _
      have eb4 : gi P2 (toN y) = b.p := by rw [hrc.p]; exact hcb _
      have em : mulI .i64 4096 (gi G2 (toN (subI .i64 y 1))) = 4096 * a.g := by rw [ea3, mulI_eq, IntWalk.i64_in _ (by omega)]
      have ev : addI .i64 (convI .i64 (gi V2 (toN (subI .i64 y 1)))) (mulI .i64 4096 (gi G2 (toN (subI .i64 y 1)))) = a.v + 4096 * a.g := by rw [em, ea1, convI_eq, IntWalk.i64_in _ (by omega), addI_eq, IntWalk.i64_in _ (by omega)]
      have ep : addI .i64 (convI .i64 (gi PH2 (toN (subI .i64 y 1)))) (mulI .i64 4096 (gi G2 (toN (subI .i64 y 1)))) = a.ph + 4096 * a.g := by rw [em, ea2, convI_eq, IntWalk.i64_in _ (by omega), addI_eq, IntWalk.i64_in _ (by omega)]
      have ev2 : convI .i64 (gi V2 (toN y)) = b.v := by rw [eb1, convI_eq, IntWalk.i64_in _ (by omega)]
      have ep2 : convI .i64 (gi PH2 (toN y)) = b.ph := by rw [eb2, convI_eq, IntWalk.i64_in _ (by omega)]
      refine ⟨hin1, hnl1, hin, hnl, Br.no (leI_f.2 (by show gi V2 (toN (subI .i64 y 1)) < gi V2 (toN y); rw [ea1, eb1]; exact hlt)) ?_⟩
      conv => cbv
      refine Br.mk (fun h1 => ?_) (fun h1 => ?_)
      · have h1 : a.p = b.p := by rw [← ea4, ← eb4]; exact eqI_t.1 h1
        conv => cbv
        refine Br.mk (fun h2 => ?_) (fun h2 => ?_)
        · have h2 : a.v + 4096 * a.g = b.v := by rw [← ev, ← ev2]; exact eqI_t.1 h2
          conv => cbv
          refine Br.no (eqI_f.2 (by
            show addI .i64 (convI .i64 (gi PH2 (toN (subI .i64 y 1)))) (mulI .i64 4096 (gi G2 (toN (subI .i64 y 1)))) ≠ convI .i64 (gi PH2 (toN y))
            rw [ep, ep2]
            intro h3
            rw [folB, decide_eq_true h1, decide_eq_true h2, decide_eq_true h3] at hfol
            exact absurd hfol (by decide))) ?_
          conv => cbv
          refine ⟨y1, ⟨by show 1 ≤ y1; omega, by show ((k2 : Int) - y1).toNat < ((k2 : Int) - y).toNat; omega⟩, _, (HImp.refl _).ext, LeSt.mk' [0, 1, 2] (by decide) (by rfl) (by decide) ?_ ?_⟩
          · conv => cbv
            refine ⟨?_, trivial⟩
            show y1 = addI .i64 y 1
            rw [addI_eq, IntWalk.i64_in _ (by omega), hy1']
          · conv => cbv
            exact ⟨⟨fun j _ => rngF_le _ _, trivial⟩, ⟨fun j _ => rngF_le _ _, trivial⟩, trivial⟩
        · conv => cbv
          refine ⟨y1, ⟨by show 1 ≤ y1; omega, by show ((k2 : Int) - y1).toNat < ((k2 : Int) - y).toNat; omega⟩, _, (HImp.refl _).ext, LeSt.mk' [0, 1, 2] (by decide) (by rfl) (by decide) ?_ ?_⟩
          · conv => cbv
            refine ⟨?_, trivial⟩
            show y1 = addI .i64 y 1
            rw [addI_eq, IntWalk.i64_in _ (by omega), hy1']
          · conv => cbv
            exact ⟨⟨fun j _ => rngF_le _ _, trivial⟩, ⟨fun j _ => rngF_le _ _, trivial⟩, trivial⟩
      · conv => cbv
        refine ⟨y1, ⟨by show 1 ≤ y1; omega, by show ((k2 : Int) - y1).toNat < ((k2 : Int) - y).toNat; omega⟩, _, (HImp.refl _).ext, LeSt.mk' [0, 1, 2] (by decide) (by rfl) (by decide) ?_ ?_⟩
        · conv => cbv
          refine ⟨?_, trivial⟩
          show y1 = addI .i64 y 1
          rw [addI_eq, IntWalk.i64_in _ (by omega), hy1']
        · conv => cbv
          exact ⟨⟨fun j _ => rngF_le _ _, trivial⟩, ⟨fun j _ => rngF_le _ _, trivial⟩, trivial⟩
    · have hd : (k2 : Int) ≤ y := by have h : ofN k2 ≤ y := ltI_f.1 hd; rw [ofN_eq] at h; exact h
      conv => cbv
      subst hQ2
      conv => cbv
      exact hK _ _ _ (show true = true from rfl) ⟨1, rfl⟩
theorem again_tail (V PH G P : List Int) (m c : Nat) (hL : RgsOk ⟨V, PH, G, P⟩ m) (A : Option (Nat × Nat) → Vex.Own → World → Prop) {K : Bool → SV → List Blk → Prop}
    (hK : ∀ q v hp', leV v (.b (.lit true)) → (∃ x : Nat, hp'[x]? = some (.abs A)) → K q v hp') :
    OkCall kit 6 [.slc 0 0 4 (.lit 0) (.ex m) (.ex c)] [.ro [.rows 4 (.ex m) (rngF V PH G P)], .abs A] K := by
  obtain ⟨n, hn⟩ : ∃ n, n = fewN m := ⟨_, rfl⟩
  obtain ⟨A1, hA⟩ : ∃ x, x = (List.range n).map (fV ⟨V, PH, G, P⟩) := ⟨_, rfl⟩
  obtain ⟨B1, hB⟩ : ∃ x, x = (List.range n).map (fH ⟨V, PH, G, P⟩) := ⟨_, rfl⟩
  obtain ⟨C1, hC⟩ : ∃ x, x = (List.range n).map (fG ⟨V, PH, G, P⟩) := ⟨_, rfl⟩
  obtain ⟨D1, hD⟩ : ∃ x, x = (List.range n).map (fPm ⟨V, PH, G, P⟩) := ⟨_, rfl⟩
  obtain ⟨hKok, W, f1, tk1, hW, hm1, htk1, hall1, htold⟩ := again_plain (L := ⟨V, PH, G, P⟩) (K := ⟨A1, B1, C1, D1⟩) (n := n) (by rw [hn]; unfold fewN; omega) (by rw [hA, hB, hC, hD])
  obtain ⟨rl, hrl⟩ : ∃ x, x = mergeP W := ⟨_, rfl⟩
  obtain ⟨V2, hV2⟩ : ∃ x, x = rl.map (·.v) := ⟨_, rfl⟩
  obtain ⟨PH2, hPH2⟩ : ∃ x, x = rl.map (·.ph) := ⟨_, rfl⟩
  obtain ⟨G2, hG2⟩ : ∃ x, x = rl.map (·.g) := ⟨_, rfl⟩
  obtain ⟨P2, hP2⟩ : ∃ x, x = rl.map (·.p) := ⟨_, rfl⟩
  obtain ⟨k2, hk2⟩ : ∃ x, x = rl.length := ⟨_, rfl⟩
  have hrc : RCols (mergeP W) V2 PH2 G2 P2 k2 := by rw [← hrl]; exact ⟨hV2, hPH2, hG2, hP2, hk2⟩
  obtain ⟨hRok, f2, tk2, hm2, hall2, hall2'⟩ := htold V2 PH2 G2 P2 k2 hrc
  obtain ⟨f0, hf0⟩ : ∃ x, x = zeroF (fun _ => 0) 409600 := ⟨_, rfl⟩
  obtain ⟨fg, hfg⟩ : ∃ x, x = zeroF f0 413696 := ⟨_, rfl⟩
  have hfgok : MemOk fg := by rw [hfg, hf0]; exact agF_ok
  rw [show agF = fg by rw [hfg, hf0]; rfl] at hm1
  have hf1ok : MemOk f1 := by have := mapP_ok (n := 128) (base := 409600) (pages := 28) (taken := 2) (root := 409600) (sealed := false) (L := ⟨A1, B1, C1, D1⟩) (m := n) hfgok; rw [hm1] at this; exact this
  have hf2ok : MemOk f2 := by have := mapP_ok (n := 128) (base := 409600) (pages := 28) (taken := tk1) (root := 413696) (sealed := false) (L := ⟨V2, PH2, G2, P2⟩) (m := k2) hf1ok; rw [hm2] at this; exact this
  obtain ⟨A0, hA0⟩ : ∃ x, x = W.map (·.1) := ⟨_, rfl⟩
  obtain ⟨Q0, hQ0⟩ : ∃ x, x = W.map (fun x => decP x.2) := ⟨_, rfl⟩
  obtain ⟨F0, hF0⟩ : ∃ x, x = W.map (fun x => decF x.2) := ⟨_, rfl⟩
  obtain ⟨w, hw⟩ : ∃ x, x = W.length := ⟨_, rfl⟩
  have hcW : Cols W A0 Q0 F0 w := ⟨hA0, hQ0, hF0, hw⟩
  have hwl : w ≤ 1048576 := Cols.le (n := 128) (f := f1) (root := 409600) (by rw [hall1]; exact hcW)
  have hk2w : k2 ≤ w := by rw [hk2, hrl, hw]; exact mergeP_len W
  refine into I6ok 6 ?_
  conv => cbv
  refine OkCall.by_spec known_spec [] (by decide) (by cbv) trivial ?_
  conv => cbv
  refine OkCall.by_spec (fresh_spec 128 100 28 (by decide) (by decide) (by decide) (by decide) (bs := 409600) (by decide)) [] (by decide) (by cbv) trivial ?_
  conv => cbv
  refine OkCall.by_spec (tnew_ok 128 409600 28 0 (fun _ => 0) ⟨by decide, by decide, by decide, by decide, by decide⟩ (by decide) (at_ := 409600) (tk := 1) (by decide) (by decide)) [4, 5] (by decide) (by cbv) (by cbv) ?_
  rw [← hf0]
  conv => cbv
  refine OkCall.by_spec (tnew_ok 128 409600 28 1 f0 ⟨by decide, by decide, by decide, by decide, by decide⟩ (by decide) (at_ := 413696) (tk := 2) (by decide) (by decide)) [4, 5] (by decide) (by cbv) (by cbv) ?_
  rw [← hfg]
  conv => cbv
  refine OkCall.by_specM (few_spec ⟨V, PH, G, P⟩ m c n hL hL.m rfl hn hA hB hC hD) [0] (by decide) (by cbv) ?_ ?_
  · conv => cbv
    exact ⟨⟨fun j _ => rngF_le _ _, trivial⟩, trivial⟩
  rintro q v hp1 new ⟨rfl, rfl, cap, jc, hcap, hjc, rfl, rfl⟩
  conv => cbv
  refine OkCall.by_spec (Spec1.lend (map_spec 128 409600 28 2 409600 false fg A1 B1 C1 D1 n cap hKok (by decide) hfgok (by decide) ⟨by decide, by decide, by decide, by decide, by decide⟩ hm1.symm) 3 31 [.rows 4 (.ex n) (rngF A1 B1 C1 D1), .junk 4 (.ex jc)] rfl rfl (Pre.rows (Nat.le_refl _)) ns3' nsn) [4, 5, 7, 11] (by decide) (by cbv) ?_ ?_
  · conv => cbv
    exact ⟨⟨fun j _ => rngF_le _ _, trivial⟩, trivial⟩
  conv => cbv
  refine OkCall.by_specM (ranges_spec 128 f1 409600 (by decide) hf1ok (by decide) (by rw [hall1]; exact hrc)) [4] (by decide) (by cbv) (by cbv) ?_
  rintro q v hp1 new ⟨rfl, rfl, cap1, jc1, hcap1, hjc1, rfl, rfl⟩
  conv => cbv
  refine OkCall.by_spec (Spec1.lend (map_spec 128 409600 28 tk1 413696 false f1 V2 PH2 G2 P2 k2 cap1 hRok (by decide) hf1ok (by decide) ⟨by decide, by decide, by decide, by omega, by decide⟩ hm2.symm) 3 31 [.rows 4 (.ex k2) (rngF V2 PH2 G2 P2), .junk 4 (.ex jc1)] rfl rfl (Pre.rows (Nat.le_refl _)) ns3' nsn) [4, 5, 9, 14] (by decide) (by cbv) ?_ ?_
  · conv => cbv
    exact ⟨⟨fun j _ => rngF_le _ _, trivial⟩, trivial⟩
  conv => cbv
  refine OkCall.by_specM (ranges_spec 128 f2 413696 (by decide) hf2ok (by decide) (by rw [hall2']; exact hrc)) [4] (by decide) (by cbv) (by cbv) ?_
  rintro q v hp1 new ⟨rfl, rfl, cap2, jc2, hcap2, hjc2, rfl, rfl⟩
  conv => cbv
  refine OkCall.pre ((HImp.roInts 14 rfl).trans (HImp.roInts 17 rfl)) ?_
  conv => cbv
  refine OkCall.by_spec (sameRanges_spec V2 PH2 V2 PH2 G2 P2 G2 P2 k2 k2 cap1 cap2 (by omega) (b := true) ⟨fun _ => ⟨rfl, fun j _ => ⟨rfl, rfl, rfl, rfl⟩⟩, fun _ => rfl⟩) [14, 17] (by decide) (by cbv) ?_ ?_
  · conv => cbv
    exact ⟨⟨fun j _ => rngF_le _ _, trivial⟩, ⟨fun j _ => rngF_le _ _, trivial⟩, trivial⟩
  conv => cbv
  refine Br.no (by show notB true = false; rw [notB_eq]; rfl) ?_
  conv => cbv
  refine Br.no (neI_f.2 rfl) ?_
  conv => cbv
  refine Br.no (neI_f.2 rfl) ?_
  conv => cbv
  refine OkCall.by_specM (entries_spec 128 f2 409600 (by decide) hf2ok (by decide) (by rw [hall2]; exact hcW)) [4] (by decide) (by cbv) (by cbv) ?_
  rintro q v hp1 new ⟨rfl, rfl, cap3, jc3, hcap3, hjc3, rfl, rfl⟩
  conv => cbv
  refine OkCall.by_specM (entries_spec 128 f2 413696 (by decide) hf2ok (by decide) (by rw [hall2']; exact hcW)) [4] (by decide) (by cbv) (by cbv) ?_
  rintro q v hp1 new ⟨rfl, rfl, cap4, jc4, hcap4, hjc4, rfl, rfl⟩
  conv => cbv
  refine Br.no (neI_f.2 rfl) ?_
  conv => cbv
  refine Ok.weak (LeSt.mk' [0, 1, 14, 20, 22] (by decide) (by rfl) (by decide) (by cbv) ?_) (again_ends V PH G P m A (mergeP W) (merge_beside W hW) ?_ V2 PH2 G2 P2 k2 cap1 hrc (by omega) A0 Q0 F0 w cap3 jc3 cap4 jc4 hwl hK)
  · conv => cbv
    exact ⟨⟨fun j _ => rngF_le _ _, trivial⟩, ⟨fun j _ => rngF_le _ _, trivial⟩, ⟨fun j _ => fndG_le _ _ _ _ _, trivial⟩, ⟨fun j _ => fndG_le _ _ _ _ _, trivial⟩, trivial⟩
  · intro r hr
    obtain ⟨⟨x, hx, e1, e2, e3⟩, g1, g2⟩ := mergeP_mem W r hr
    rw [← hall1] at hx
    obtain ⟨b1, b2, b3⟩ := allP_bd hf1ok x hx
    rw [e1, e2]
    refine ⟨b1, by omega, by omega⟩
theorem again_walk : opnArgs tab 9 [22] 0 (lawK2 6) := by
  conv => cbv
  intro m c hmc hc hbytes
  conv => cbv
  intro V hVl hV
  conv => cbv
  intro PH hPHl hPH
  conv => cbv
  intro G hGl hG
  conv => cbv
  intro P hPl hP
  conv => cbv
  intro A
  have hL : RgsOk ⟨V, PH, G, P⟩ m := ⟨col_in (P := fun z => 0 ≤ z ∧ z < 4294967296) ⟨by decide, by decide⟩ (fun z hz => inK_u32 (hV z hz)), col_in (P := fun z => 0 ≤ z ∧ z < 4294967296) ⟨by decide, by decide⟩ (fun z hz => inK_u32 (hPH z hz)),
    col_in (P := fun z => -9223372036854775808 ≤ z ∧ z < 9223372036854775808) ⟨by decide, by decide⟩ (fun z hz => inK_i64 (hG z hz)), col_in (P := fun z => 0 ≤ z ∧ z < 256) ⟨by decide, by decide⟩ (fun z hz => inK_u8 (hP z hz)), by have hb : m * 24 ≤ reachBytes := hbytes; unfold reachBytes at hb; omega⟩
  exact again_tail V PH G P m c hL A fun q v hp' h1 h2 => ⟨h1, h2⟩
end Go.Proofs.Ytnefllaeleihcaa
end
