/-
  Joined: N3 E3 N4 B1 LB LN.
-/
import Derived.Test.YtnefllaeleihcaaZ5
import Derived.Test.YtnefllaeleihcaaZ3
import Derived.Test.YtnefllaeleihcaaZ4
set_option linter.unusedVariables false
set_option linter.unusedSimpArgs false
/-
  tables.Need.
-/
section
namespace Go.Proofs.Ytnefllaeleihcaa
open Go Go.Vex
set_option maxRecDepth 20000
set_option maxHeartbeats 4000000
def insU (acc : List Int) (x : Int) : List Int := if x ∈ acc then acc else acc ++ [x]
def unitL (acc : List Int) : List (Int × Value) := acc.map fun x => (x, .agg #[])
theorem fA_unit {x : Int} : ∀ {acc : List Int} (i : Nat), (x ∉ acc → fA x (unitL acc) i = none) ∧ (x ∈ acc → ∃ j, fA x (unitL acc) i = some (j, .agg #[]))
  | [], i => by simp [unitL, fA]
  | a :: r, i => by
    have ih := fA_unit (x := x) (acc := r) (i + 1)
    simp only [unitL, List.map_cons, fA] at ih ⊢
    by_cases h : a = x
    · rw [if_pos h]; simp [h]
    · rw [if_neg h]
      refine ⟨fun h1 => ih.1 fun h2 => h1 (by simp [h2]), fun h1 => ih.2 ?_⟩
      rcases List.mem_cons.1 h1 with h2 | h2
      · exact absurd h2.symm h
      · exact h2
theorem putA_unit (acc : List Int) (x : Int) : putA x (.agg #[]) (unitL acc) = unitL (insU acc x) := by
  unfold insU
  by_cases h : x ∈ acc
  · rw [if_pos h]
    obtain ⟨j, hj⟩ := (fA_unit 0).2 h
    obtain ⟨_, h2⟩ := fA_some hj
    simp only [Nat.sub_zero] at h2
    unfold putA
    rw [hj]
    apply List.ext_getElem?
    intro k
    by_cases hk : j = k
    · subst hk
      have hlt := (List.getElem?_eq_some_iff.1 h2).1
      rw [List.getElem?_set_self hlt, h2]
    · rw [List.getElem?_set_ne hk]
  · rw [if_neg h, fA_none_putA ((fA_unit 0).1 h)]
    simp [unitL]
theorem unit_keys (acc : List Int) : (unitL acc).map (·.1) = acc := by simp [unitL, List.map_map, Function.comp_def]
/-- The first indexes of a range's pages. -/
def fstsOf (L : Rgs) (i : Nat) : List Int := (List.range ((L.V.getD i 0 / 4096 + L.G.getD i 0 - 1) / 1024 - L.V.getD i 0 / 4096 / 1024 + 1).toNat).map fun (k : Nat) => L.V.getD i 0 / 4096 / 1024 + k
def allFsts (L : Rgs) (i : Nat) : List Int := (List.range i).flatMap (fstsOf L)
def keysOf (L : Rgs) (i : Nat) : List Int := (allFsts L i).foldl insU []
def needP (L : Rgs) (m : Nat) : Int := if (List.range m).any (badR L) = true then 0 else 1 + (keysOf L m).length
theorem insU_bd {n : Nat} : ∀ (l acc : List Int), acc.Nodup ∧ (∀ x ∈ acc, 0 ≤ x ∧ x < n) → (∀ x ∈ l, 0 ≤ x ∧ x < n) → (l.foldl insU acc).Nodup ∧ (∀ x ∈ l.foldl insU acc, 0 ≤ x ∧ x < n)
  | [], acc, h, _ => h
  | x :: r, acc, h, hl => by
    refine insU_bd r (insU acc x) ?_ fun y hy => hl y (by simp [hy])
    unfold insU
    by_cases hx : x ∈ acc
    · rw [if_pos hx]; exact h
    · rw [if_neg hx]
      refine ⟨?_, fun y hy => ?_⟩
      · rw [List.nodup_append]
        refine ⟨h.1, by simp, fun a ha b hb => ?_⟩
        simp only [List.mem_singleton] at hb
        subst hb; rintro rfl; exact hx ha
      · rcases List.mem_append.1 hy with hy | hy
        · exact h.2 y hy
        · simp only [List.mem_singleton] at hy; subst hy; exact hl y (by simp)
theorem fsts_bd {L : Rgs} {m : Nat} (hL : RgsOk L m) {i : Nat} (hg : mayB (L.V.getD i 0) (L.PH.getD i 0) (L.G.getD i 0) (L.P.getD i 0) = true) : ∀ x ∈ fstsOf L i, 0 ≤ x ∧ x < (1024 : Nat) := by
  intro x hx
  simp only [fstsOf, List.mem_map, List.mem_range] at hx
  obtain ⟨k, hk, rfl⟩ := hx
  have hv := hL.v i
  have hg := of_decide_eq_true hg
  omega
theorem keys_len {L : Rgs} {m i : Nat} (hL : RgsOk L m) (hg : ∀ j, j < i → mayB (L.V.getD j 0) (L.PH.getD j 0) (L.G.getD j 0) (L.P.getD j 0) = true) : (keysOf L i).length ≤ 1024 := by
  have := insU_bd (n := 1024) (allFsts L i) [] ⟨by simp, by simp⟩ (fun x hx => by
    simp only [allFsts, List.mem_flatMap, List.mem_range] at hx
    obtain ⟨a, ha, hx⟩ := hx
    exact fsts_bd hL (hg a ha) x hx)
  exact nodup_lt 1024 _ this.1 this.2
noncomputable def I11 : FnT := [(11, fi Try.f11 ⟨[], 0⟩), (41, fi Try.f41 ⟨[], 0⟩)]
theorem I11ok : FnsOk kit I11 := ⟨fo11 _, fo41 _, trivial⟩
theorem need_spec (V PH G P : List Int) (m cap : Nat) (hL : RgsOk ⟨V, PH, G, P⟩ m) {r : Int} (hr : r = needP ⟨V, PH, G, P⟩ m) :
    Spec1 kit 11 [.slc 0 0 4 (.lit 0) (.ex m) (.ex cap)] [.ro [.rows 4 (.ex m) (rngF V PH G P)]] false (.i .i64 (.ex r)) [.ro [.rows 4 (.ex m) (rngF V PH G P)]] [] := by
  obtain ⟨h1, h2, h3, h4, h5⟩ := hL
  simp only at h1 h2 h3 h4
  refine Spec1.mk2 rfl fun F => ?_
  obtain ⟨E1, hE1⟩ : ∃ x, x = entA (Value.int .u32) (unitL []) := ⟨_, rfl⟩
  refine into I11ok 6 ?_
  conv => cbv
  refine XOpN.x (XOpN.makeB (.abs (MP E1)) (fun ρ b w h => by rw [hE1]; exact makeMP ρ b w h) ?_)
  conv => cbv
  refine byInv I11ok 6 ⟨[], 0⟩ (fun a : Int × List Int × List (Value × Value) => ⟨[(11, .i .i64 (.ex a.1)), (10, .i .i64 (.ex (ofN m))), (9, .slc 0 0 4 (.lit 0) (.ex m) (.ex cap)), (3, .map 2)], [.ro [.rows 4 (.ex m) (rngF V PH G P)], .abs F, .abs (MP a.2.2)]⟩)
    (fun a => (m - a.1).toNat) (fun a => 0 ≤ a.1 ∧ a.1 ≤ m ∧ (∀ j, j < a.1.toNat → badR ⟨V, PH, G, P⟩ j = false) ∧ a.2.1 = keysOf ⟨V, PH, G, P⟩ a.1.toNat ∧ a.2.2 = entA (Value.int .u32) (unitL a.2.1)) false (0, [], E1) (by kernel_rfl) ⟨by omega, by omega, fun j hj => by simp at hj, rfl, hE1⟩ (LeSt.mk' [0, 1, 2] (by decide) (by rfl) (by decide) (by cbv) ?_) ?_
  · conv => cbv
    exact ⟨⟨fun j _ => rngF_le _ _, trivial⟩, trivial⟩
  rintro ⟨z, acc, D⟩ ⟨hz0, hz1, hz2, hacc, hD⟩
  simp only at hz0 hz1 hz2 hacc hD
  obtain ⟨z1, hz1'⟩ : ∃ x, z + 1 = x := ⟨_, rfl⟩
  obtain ⟨k, hk⟩ : ∃ x : Nat, z.toNat = x := ⟨_, rfl⟩
  obtain ⟨vk, hvk⟩ : ∃ x, x = V.getD k 0 := ⟨_, rfl⟩
  obtain ⟨phk, hphk⟩ : ∃ x, x = PH.getD k 0 := ⟨_, rfl⟩
  obtain ⟨gk, hgk⟩ : ∃ x, x = G.getD k 0 := ⟨_, rfl⟩
  obtain ⟨pk, hpk⟩ : ∃ x, x = P.getD k 0 := ⟨_, rfl⟩
  obtain ⟨bm, hbm⟩ : ∃ x, x = mayB vk phk gk pk := ⟨_, rfl⟩
  conv => cbv
  refine Br.mk (fun hc => ?_) (fun hc => ?_)
  · have hc : z < (m : Int) := by have h : z < ofN m := ltI_t.1 hc; rw [ofN_eq] at h; exact h
    conv => cbv
    refine ⟨inR.mk hz0 hc, nLt.mk (by simp only [leafs]; omega), ?_⟩
    refine OkCall.by_spec (may_spec vk phk gk pk (hvk ▸ h1 k) (hphk ▸ h2 k) (hpk ▸ h4 k) hbm) [] (by decide) ?_ trivial ?_
    · conv => cbv
      refine ⟨⟨?_, ?_, ?_, ?_, trivial⟩, trivial⟩
      · show vk = gi V (toN z); rw [gi_eq, toN_eq, hk, hvk]
      · show phk = gi PH (toN z); rw [gi_eq, toN_eq, hk, hphk]
      · show gk = gi G (toN z); rw [gi_eq, toN_eq, hk, hgk]
      · show pk = gi P (toN z); rw [gi_eq, toN_eq, hk, hpk]
    conv => cbv
    refine Br.mk (fun hd => ?_) (fun hd => ?_)
    · have hd : notB bm = true := hd
      rw [notB_eq, Bool.not_eq_true'] at hd
      have hyes : r = 0 := by
        rw [hr, needP, if_pos]
        rw [List.any_eq_true]
        exact ⟨k, List.mem_range.2 (by omega), by simp only [badR]; rw [← hvk, ← hphk, ← hgk, ← hpk, ← hbm, hd]; rfl⟩
      conv => cbv
      refine (LeOut.mk' [0, 1] (by decide) (by rfl) (by decide) ?_ ?_).two
      · conv => cbv
        exact hyes
      · conv => cbv
        exact ⟨⟨fun j _ => rngF_le _ _, trivial⟩, trivial⟩
    · have hd : notB bm = false := hd
      rw [notB_eq, Bool.not_eq_false'] at hd
      have hgood : mayB vk phk gk pk = true := by rw [← hbm]; exact hd
      have hgd := of_decide_eq_true hgood
      have hvu : 0 ≤ vk ∧ vk < 4294967296 := hvk ▸ h1 k
      obtain ⟨fk, hfk⟩ : ∃ x, x = vk / 4096 := ⟨_, rfl⟩
      obtain ⟨lo, hlo⟩ : ∃ x, x = fk / 1024 := ⟨_, rfl⟩
      obtain ⟨hi, hhi⟩ : ∃ x, x = (fk + gk - 1) / 1024 := ⟨_, rfl⟩
      have esh : shrI .u32 vk 12 = fk := by
        have := shrI_u32 vk 12 (by decide)
        rw [show ((12 : Nat) : Int) = 12 from rfl] at this
        rw [this, hfk]; rfl
      have equ : quoI .u32 fk 1024 = lo := by rw [quoI_eq, Int.tdiv_eq_ediv_of_nonneg (by omega), wrap_u32, hlo]; omega
      have hgv : gi V (toN z) = vk := by rw [gi_eq, toN_eq, hk, hvk]
      conv => cbv
      refine byInv I11ok 6 ⟨[], 0⟩ (fun a : Int × List Int × List (Value × Value) => ⟨[(7, .i .u32 (.ex a.1)), (6, .i .u32 (.ex fk)), (5, .p 3 (.at 0)), (11, .i .i64 (.ex z)), (10, .i .i64 (.ex (ofN m))), (9, .slc 0 0 4 (.lit 0) (.ex m) (.ex cap)), (3, .map 2)], [.ro [.rows 4 (.ex m) (rngF V PH G P)], .abs F, .abs (MP a.2.2), .cells 31 [.i .u32 (.ex vk), .i .u32 (.ex phk), .i .i64 (.ex gk), .i .u8 (.ex pk)]]⟩)
        (fun a => (hi + 1 - a.1).toNat) (fun a => lo ≤ a.1 ∧ a.1 ≤ hi + 1 ∧ a.2.1 = ((List.range (a.1 - lo).toNat).map fun (j : Nat) => lo + j).foldl insU acc ∧ a.2.2 = entA (Value.int .u32) (unitL a.2.1)) false (lo, acc, D) (by kernel_rfl) ⟨by omega, by omega, by simp, hD⟩ (LeSt.mk' (List.range 4) (by decide) (by rfl) (by decide) ?_ ?_) ?_
      · conv => cbv
        refine ⟨?_, ?_, trivial⟩
        · show lo = quoI .u32 (shrI .u32 (gi V (toN z)) 12) 1024; rw [hgv, esh, equ]
        · show fk = shrI .u32 (gi V (toN z)) 12; rw [hgv, esh]
      · conv => cbv
        refine ⟨⟨fun j _ => rngF_le _ _, trivial⟩, ⟨?_, ?_, ?_, ?_, trivial⟩, trivial⟩
        · show vk = gi V (toN z); rw [gi_eq, toN_eq, hk, hvk]
        · show phk = gi PH (toN z); rw [gi_eq, toN_eq, hk, hphk]
        · show gk = gi G (toN z); rw [gi_eq, toN_eq, hk, hgk]
        · show pk = gi P (toN z); rw [gi_eq, toN_eq, hk, hpk]
      rintro ⟨x, acc2, D2⟩ ⟨hx0, hx1, hacc2, hD2⟩
      simp only at hx0 hx1 hacc2 hD2
      obtain ⟨x1, hx1'⟩ : ∃ y, y = x + 1 := ⟨_, rfl⟩
      obtain ⟨acc3, hacc3⟩ : ∃ y, y = insU acc2 x := ⟨_, rfl⟩
      obtain ⟨D3, hD3⟩ : ∃ y, y = entA (Value.int .u32) (putA x (.agg #[]) (unitL acc2)) := ⟨_, rfl⟩
      have ehi : quoI .u32 (subI .u32 (addI .u32 fk (convI .u32 gk)) 1) 1024 = hi := by
        have e1 : subI .u32 (addI .u32 fk (convI .u32 gk)) 1 = fk + gk - 1 := by
          rw [convI_eq, addI_eq, subI_eq, wrap_u32, wrap_u32, wrap_u32]; omega
        rw [e1, quoI_eq, Int.tdiv_eq_ediv_of_nonneg (by omega), wrap_u32, hhi]; omega
      conv => cbv
      refine Br.mk (fun he => ?_) (fun he => ?_)
      · have he : leI x (quoI .u32 (subI .u32 (addI .u32 fk (convI .u32 gk)) 1) 1024) = true := he
        rw [ehi, leI_t] at he
        conv => cbv
        refine XOpN.x (updateE hD2 mt98 ku27 rfl rfl rfl rfl x (fun ρ c h => den_i h) (.agg #[]) (fun ρ c h => den_unit h) hD3 ?_)
        conv => cbv
        refine ⟨(x1, acc3, D3), ⟨⟨by show lo ≤ x1; omega, by show x1 ≤ hi + 1; omega, ?_, by show D3 = entA _ (unitL acc3); rw [hD3, putA_unit, hacc3]⟩, by show (hi + 1 - x1).toNat < (hi + 1 - x).toNat; omega⟩, _, (HImp.refl _).ext, LeSt.mk' (List.range 4) (by decide) (by rfl) (by decide) ?_ ?_⟩
        · show acc3 = ((List.range (x1 - lo).toNat).map fun (j : Nat) => lo + j).foldl insU acc
          have ex : (x1 - lo).toNat = (x - lo).toNat + 1 := by omega
          rw [ex, List.range_succ, List.map_append, List.foldl_append, ← hacc2, hacc3]
          have : lo + ((x - lo).toNat : Int) = x := by omega
          simp only [List.map_cons, List.map_nil, List.foldl_cons, List.foldl_nil]
          rw [this]
        · conv => cbv
          refine ⟨?_, trivial⟩
          show x1 = addI .u32 x 1
          rw [addI_eq, wrap_u32, hx1']; omega
        · conv => cbv
          exact ⟨⟨fun j _ => rngF_le _ _, trivial⟩, trivial⟩
      · have he : leI x (quoI .u32 (subI .u32 (addI .u32 fk (convI .u32 gk)) 1) 1024) = false := he
        rw [ehi, leI_f] at he
        have hx : x = hi + 1 := by omega
        have hend : acc2 = keysOf ⟨V, PH, G, P⟩ z1.toNat := by
          have ez : z1.toNat = k + 1 := by omega
          rw [ez, keysOf, allFsts, List.range_succ, List.flatMap_append, List.foldl_append]
          rw [hacc2, hacc, hk, keysOf, allFsts, hx]
          simp only [List.flatMap_cons, List.flatMap_nil, List.append_nil, fstsOf]
          rw [← hvk, ← hgk, ← hfk, ← hlo, ← hhi]
          have : (hi + 1 - lo).toNat = (hi - lo + 1).toNat := by omega
          rw [this]
        conv => cbv
        refine ⟨(z1, acc2, D2), ⟨⟨by show 0 ≤ z1; omega, by show z1 ≤ (m : Int); omega, fun j hj => ?_, hend, hD2⟩, by show ((m : Int) - z1).toNat < ((m : Int) - z).toNat; omega⟩, _, (HImp.refl _).ext, LeSt.mk' (List.range 3) (by decide) (by rfl) (by decide) ?_ ?_⟩
        · by_cases hjz : j < z.toNat
          · exact hz2 j hjz
          · have : j = k := by have hj : j < z1.toNat := hj; omega
            subst this
            simp only [badR]; rw [← hvk, ← hphk, ← hgk, ← hpk, hgood]; rfl
        · conv => cbv
          refine ⟨?_, trivial⟩
          show z1 = addI .i64 z 1
          rw [addI_eq, IntWalk.i64_in _ (by omega), hz1']
        · conv => cbv
          exact ⟨⟨fun j _ => rngF_le _ _, trivial⟩, trivial⟩
  · have hc : (m : Int) ≤ z := by have h : ofN m ≤ z := ltI_f.1 hc; rw [ofN_eq] at h; exact h
    have hzm : z.toNat = m := by omega
    rw [hzm] at hacc hz2
    have hnb : ¬ (List.range m).any (badR ⟨V, PH, G, P⟩) = true := by
      rw [List.any_eq_true]
      rintro ⟨j, hj, hb⟩
      rw [hz2 j (List.mem_range.1 hj)] at hb; cases hb
    have hg : ∀ j, j < m → mayB (V.getD j 0) (PH.getD j 0) (G.getD j 0) (P.getD j 0) = true := fun j hj => by
      have := hz2 j hj
      simp only [badR] at this
      simpa using this
    have hal : acc.length ≤ 1024 := by rw [hacc]; exact keys_len ⟨h1, h2, h3, h4, h5⟩ hg
    have hra : r = 1 + (acc.length : Int) := by rw [hr, needP, if_neg hnb, hacc]
    conv => cbv
    refine OkCall.by_specM (collect_spec (unitL acc) D hD (by simp [unitL]; omega)) [2, 3] (by decide) (by cbv) (by cbv) ?_
    rintro q v hp1 new ⟨rfl, rfl, ks, n, cap, jc, hperm, hn, rfl, rfl⟩
    have hna : n = acc.length := by
      have := hperm.length_eq
      rw [unit_keys] at this; omega
    conv => cbv
    refine (LeOut.mk' [0, 1] (by decide) (by rfl) (by decide) ?_ ?_).two
    · conv => cbv
      show r = addI .i64 1 (ofN n)
      rw [addI_eq, ofN_eq, IntWalk.i64_in _ (by omega), hra, hna]
    · conv => cbv
      exact ⟨⟨fun j _ => rngF_le _ _, trivial⟩, trivial⟩
end Go.Proofs.Ytnefllaeleihcaa
end

/-
  cloisterref4: page, Encode; cloisterref7: May.
-/
section
namespace Go.Proofs.Ytnefllaeleihcaa
open Go Go.Vex
set_option maxRecDepth 20000
set_option maxHeartbeats 4000000
noncomputable def I97 : FnT := [(97, fi Try.f97 ⟨[], 0⟩)]
theorem I97ok : FnsOk kit I97 := ⟨fo97 _, trivial⟩
theorem rpage_spec (p : Int) {b : Bool} (hb : b = permOk p) : Spec1 kit 97 [.i .u8 (.ex p)] [] true (.b (.ex b)) [] [] := by
  refine Spec1.mk2 rfl fun F => ?_
  refine into I97ok 6 ?_
  conv => cbv
  refine Br.mk (fun h1 => ?_) (fun h1 => ?_)
  · have h1 : p = 1 := eqI_t.1 h1
    conv => cbv
    refine (LeOut.mk' [0] (by decide) rfl (by decide) ?_ (by cbv)).two
    conv => cbv
    show b = _
    rw [hb, h1]; first | rfl | (rw [show eqI 5 7 = false from eqI_f.2 (by decide)]; rfl)
  · have h1 : p ≠ 1 := eqI_f.1 h1
    conv => cbv
    refine Br.mk (fun h3 => ?_) (fun h3 => ?_)
    · have h3 : p = 3 := eqI_t.1 h3
      conv => cbv
      refine (LeOut.mk' [0] (by decide) rfl (by decide) ?_ (by cbv)).two
      conv => cbv
      show b = _
      rw [hb, h3]; first | rfl | (rw [show eqI 5 7 = false from eqI_f.2 (by decide)]; rfl)
    · have h3 : p ≠ 3 := eqI_f.1 h3
      conv => cbv
      refine Br.mk (fun h4 => ?_) (fun h4 => ?_)
      · have h4 : p = 4 := eqI_t.1 h4
        conv => cbv
        refine (LeOut.mk' [0] (by decide) rfl (by decide) ?_ (by cbv)).two
        conv => cbv
        show b = _
        rw [hb, h4]; first | rfl | (rw [show eqI 5 7 = false from eqI_f.2 (by decide)]; rfl)
      · have h4 : p ≠ 4 := eqI_f.1 h4
        conv => cbv
        refine Br.mk (fun h5 => ?_) (fun h5 => ?_)
        · have h5 : p = 5 := eqI_t.1 h5
          conv => cbv
          refine (LeOut.mk' [0] (by decide) rfl (by decide) ?_ (by cbv)).two
          conv => cbv
          show b = _
          rw [hb, h5]; first | rfl | (rw [show eqI 5 7 = false from eqI_f.2 (by decide)]; rfl)
        · have h5 : p ≠ 5 := eqI_f.1 h5
          conv => cbv
          refine (LeOut.mk' [0] (by decide) rfl (by decide) ?_ (by cbv)).two
          conv => cbv
          show b = eqI p 7
          rw [hb, eqI_eq]; simp [permOk, h1, h3, h4, h5]
noncomputable def I94 : FnT := [(94, fi Try.f94 ⟨[], 0⟩)]
theorem I94ok : FnsOk kit I94 := ⟨fo94 _, trivial⟩
theorem renc_spec (k p f : Int) (hp : 0 ≤ p ∧ p < 256) (hf : 0 ≤ f ∧ f < 4294967296) {e w : Int} (he : e = encE k p f) (hw : w = encW k p f) :
    Spec1 kit 94 [.agg [.i .i64 (.ex k), .i .u8 (.ex p), .i .u32 (.ex f)]] [] false (.tup [.i .u32 (.ex w), .i .i64 (.ex e)]) [] [] := by
  refine Spec1.mk2 rfl fun F => ?_
  obtain ⟨b, hb⟩ : ∃ x, x = permOk p := ⟨_, rfl⟩
  refine into I94ok 6 ?_
  conv => cbv
  refine Br.mk (fun hk => ?_) (fun hk => ?_)
  · have hk : k = 0 := eqI_t.1 hk
    conv => cbv
    refine Br.mk (fun h1 => ?_) (fun h1 => ?_)
    · have h1 : p ≠ 0 := neI_t.1 h1
      conv => cbv
      refine (LeOut.mk' [0] (by decide) rfl (by decide) ?_ (by cbv)).two
      conv => cbv
      exact ⟨by rw [hw]; simp [encW, encE, hk, h1], by rw [he]; simp [encE, hk, h1], trivial⟩
    · have h1 : p = 0 := neI_f.1 h1
      conv => cbv
      refine Br.mk (fun h2 => ?_) (fun h2 => ?_)
      · have h2 : f ≠ 0 := neI_t.1 h2
        have h3 : 0 < f := by omega
        conv => cbv
        refine (LeOut.mk' [0] (by decide) rfl (by decide) ?_ (by cbv)).two
        conv => cbv
        exact ⟨by rw [hw]; simp [encW, encE, hk, h1, h3], by rw [he]; simp [encE, hk, h1, h3], trivial⟩
      · have h2 : f = 0 := neI_f.1 h2
        conv => cbv
        refine (LeOut.mk' [0] (by decide) rfl (by decide) ?_ (by cbv)).two
        conv => cbv
        exact ⟨by rw [hw]; simp [encW, encE, hk, h1, h2], by rw [he]; simp [encE, hk, h1, h2], trivial⟩
  · have hk : k ≠ 0 := eqI_f.1 hk
    conv => cbv
    refine Br.mk (fun hk1 => ?_) (fun hk1 => ?_)
    · have hk1 : k = 1 := eqI_t.1 hk1
      conv => cbv
      refine OkCall.by_spec (rpage_spec p hb) [] (by decide) (by cbv) trivial ?_
      conv => cbv
      refine Br.mk (fun h1 => ?_) (fun h1 => ?_)
      · have h1 : notB b = true := h1
        rw [notB_eq, Bool.not_eq_true', hb] at h1
        conv => cbv
        refine (LeOut.mk' [0] (by decide) rfl (by decide) ?_ (by cbv)).two
        conv => cbv
        exact ⟨by rw [hw]; simp [encW, encE, hk1, h1], by rw [he]; simp [encE, hk1, h1], trivial⟩
      · have h1 : notB b = false := h1
        rw [notB_eq, Bool.not_eq_false', hb] at h1
        conv => cbv
        refine Br.mk (fun h2 => ?_) (fun h2 => ?_)
        · have h2 : 4095 < f := ltI_t.1 h2
          conv => cbv
          refine (LeOut.mk' [0] (by decide) rfl (by decide) ?_ (by cbv)).two
          conv => cbv
          exact ⟨by rw [hw]; simp [encW, encE, hk1, h1, h2], by rw [he]; simp [encE, hk1, h1, h2], trivial⟩
        · have h2 : f ≤ 4095 := ltI_f.1 h2
          have h3 : ¬ 4095 < f := by omega
          conv => cbv
          refine (LeOut.mk' [0] (by decide) rfl (by decide) ?_ (by cbv)).two
          conv => cbv
          refine ⟨?_, by rw [he]; simp [encE, hk1, h1, h3], trivial⟩
          show w = addI .u32 (addI .u32 (mulI .u32 4096 f) (mulI .u32 2 (convI .u32 p))) 1
          have : w = 4096 * f + 2 * p + 1 := by rw [hw]; simp [encW, encE, hk1, h1, h3]
          rw [this, mulI_eq, mulI_eq, addI_eq, addI_eq, convI_eq, wrap_u32, wrap_u32, wrap_u32, wrap_u32, wrap_u32]; omega
    · have hk1 : k ≠ 1 := eqI_f.1 hk1
      conv => cbv
      refine Br.mk (fun hk2 => ?_) (fun hk2 => ?_)
      · have hk2 : k = 2 := eqI_t.1 hk2
        conv => cbv
        refine Br.mk (fun h1 => ?_) (fun h1 => ?_)
        · have h1 : p ≠ 0 := neI_t.1 h1
          conv => cbv
          refine (LeOut.mk' [0] (by decide) rfl (by decide) ?_ (by cbv)).two
          conv => cbv
          exact ⟨by rw [hw]; simp [encW, encE, hk2, h1], by rw [he]; simp [encE, hk2, h1], trivial⟩
        · have h1 : p = 0 := neI_f.1 h1
          conv => cbv
          refine Br.mk (fun h2 => ?_) (fun h2 => ?_)
          · have h2 : 4095 < f := ltI_t.1 h2
            conv => cbv
            refine (LeOut.mk' [0] (by decide) rfl (by decide) ?_ (by cbv)).two
            conv => cbv
            exact ⟨by rw [hw]; simp [encW, encE, hk2, h1, h2], by rw [he]; simp [encE, hk2, h1, h2], trivial⟩
          · have h2 : f ≤ 4095 := ltI_f.1 h2
            have h3 : ¬ 4095 < f := by omega
            conv => cbv
            refine (LeOut.mk' [0] (by decide) rfl (by decide) ?_ (by cbv)).two
            conv => cbv
            refine ⟨?_, by rw [he]; simp [encE, hk2, h1, h3], trivial⟩
            show w = addI .u32 (mulI .u32 4096 f) 17
            have : w = 4096 * f + 17 := by rw [hw]; simp [encW, encE, hk2, h1, h3]
            rw [this, mulI_eq, addI_eq, wrap_u32, wrap_u32]; omega
      · have hk2 : k ≠ 2 := eqI_f.1 hk2
        conv => cbv
        refine (LeOut.mk' [0] (by decide) rfl (by decide) ?_ (by cbv)).two
        conv => cbv
        exact ⟨by rw [hw]; simp [encW, encE, hk, hk1, hk2], by rw [he]; simp [encE, hk, hk1, hk2], trivial⟩
end Go.Proofs.Ytnefllaeleihcaa
end

/-
  cloisterref7: May, all, Need.
-/
section
namespace Go.Proofs.Ytnefllaeleihcaa
open Go Go.Vex
set_option maxRecDepth 20000
set_option maxHeartbeats 4000000
noncomputable def I75 : FnT := [(75, fi Try.f75 ⟨[], 0⟩)]
theorem I75ok : FnsOk kit I75 := ⟨fo75 _, trivial⟩
theorem enc0 (p : Int) {ph : Int} (h : 0 ≤ ph) : (encE 1 p (ph / 4096) = 0 ∧ ph / 4096 ≤ 4095) ↔ (encE 1 p 0 = 0 ∧ ph / 4096 ≤ 4095) := by
  by_cases hq : ph / 4096 ≤ 4095
  · have : ¬ 4095 < ph / 4096 := by omega
    simp [encE, hq, this]
  · simp [hq]
theorem rmay_spec (v ph g p : Int) (hv : 0 ≤ v ∧ v < 4294967296) (hph : 0 ≤ ph ∧ ph < 4294967296) (hp : 0 ≤ p ∧ p < 256) {b : Bool} (hb : b = mayB v ph g p) :
    Spec1 kit 75 [.agg [.i .u32 (.ex v), .i .u32 (.ex ph), .i .i64 (.ex g), .i .u8 (.ex p)]] [] false (.b (.ex b)) [] [] := by
  refine Spec1.mk2 rfl fun F => ?_
  refine into I75ok 6 ?_
  obtain ⟨e, he⟩ : ∃ x, x = encE 1 p 0 := ⟨_, rfl⟩
  obtain ⟨w, hw⟩ : ∃ x, x = encW 1 p 0 := ⟨_, rfl⟩
  have r1 : remI v 4096 = v % 4096 := by rw [remI_eq]; exact Int.tmod_eq_emod_of_nonneg hv.1
  have r2 : remI ph 4096 = ph % 4096 := by rw [remI_eq]; exact Int.tmod_eq_emod_of_nonneg hph.1
  have s1 : subI .i64 1048576 (convI .i64 (quoI .u32 v 4096)) = 1048576 - v / 4096 := by
    have q : quoI .u32 v 4096 = v / 4096 := by rw [quoI_eq, Int.tdiv_eq_ediv_of_nonneg hv.1, wrap_u32]; omega
    rw [q, convI_eq, subI_eq, IntWalk.i64_in (v / 4096) (by omega), IntWalk.i64_in _ (by omega)]
  have s2 : subI .i64 4096 (convI .i64 (quoI .u32 ph 4096)) = 4096 - ph / 4096 := by
    have q : quoI .u32 ph 4096 = ph / 4096 := by rw [quoI_eq, Int.tdiv_eq_ediv_of_nonneg hph.1, wrap_u32]; omega
    rw [q, convI_eq, subI_eq, IntWalk.i64_in (ph / 4096) (by omega), IntWalk.i64_in _ (by omega)]
  have hiff : b = true ↔ encE 1 p 0 = 0 ∧ v % 4096 = 0 ∧ ph % 4096 = 0 ∧ 1 ≤ g ∧ g ≤ 1048576 - v / 4096 ∧ g ≤ 4096 - ph / 4096 := by
    rw [hb, mayB, decide_eq_true_eq]
    constructor
    · rintro ⟨h1, h2, h3, h4, h5, h6⟩
      exact ⟨((enc0 p hph.1).1 ⟨h1, by omega⟩).1, h2, h3, h4, h5, h6⟩
    · rintro ⟨h1, h2, h3, h4, h5, h6⟩
      exact ⟨((enc0 p hph.1).2 ⟨h1, by omega⟩).1, h2, h3, h4, h5, h6⟩
  have hno : ¬ (encE 1 p 0 = 0 ∧ v % 4096 = 0 ∧ ph % 4096 = 0 ∧ 1 ≤ g ∧ g ≤ 1048576 - v / 4096 ∧ g ≤ 4096 - ph / 4096) → b = false := fun h => by
    cases b with
    | false => rfl
    | true => exact absurd (hiff.1 rfl) h
  conv => cbv
  refine OkCall.by_spec (renc_spec 1 p 0 hp (by omega) he hw) [] (by decide) (by cbv) trivial ?_
  conv => cbv
  refine Br.mk (fun h1 => ?_) (fun h1 => ?_)
  · have h1 : e ≠ 0 := neI_t.1 h1
    have hf := hno (fun h => h1 (he.trans h.1))
    conv => cbv
    refine (LeOut.mk' [0] (by decide) rfl (by decide) ?_ (by cbv)).two
    conv => cbv
    exact hf
  · have h1 : e = 0 := neI_f.1 h1
    conv => cbv
    refine Br.mk (fun h2 => ?_) (fun h2 => ?_)
    · have h2 : v % 4096 ≠ 0 := by have h : remI v 4096 ≠ 0 := neI_t.1 h2; rw [r1] at h; exact h
      have hf := hno (fun h => h2 h.2.1)
      conv => cbv
      refine (LeOut.mk' [0] (by decide) rfl (by decide) ?_ (by cbv)).two
      conv => cbv
      exact hf
    · have h2 : v % 4096 = 0 := by have h : remI v 4096 = 0 := neI_f.1 h2; rw [r1] at h; exact h
      conv => cbv
      refine Br.mk (fun h3 => ?_) (fun h3 => ?_)
      · have h3 : ph % 4096 ≠ 0 := by have h : remI ph 4096 ≠ 0 := neI_t.1 h3; rw [r2] at h; exact h
        have hf := hno (fun h => h3 h.2.2.1)
        conv => cbv
        refine (LeOut.mk' [0] (by decide) rfl (by decide) ?_ (by cbv)).two
        conv => cbv
        exact hf
      · have h3 : ph % 4096 = 0 := by have h : remI ph 4096 = 0 := neI_f.1 h3; rw [r2] at h; exact h
        conv => cbv
        refine Br.mk (fun h4 => ?_) (fun h4 => ?_)
        · have h4 : g < 1 := ltI_t.1 h4
          have hf := hno (fun h => by omega)
          conv => cbv
          refine (LeOut.mk' [0] (by decide) rfl (by decide) ?_ (by cbv)).two
          conv => cbv
          exact hf
        · have h4 : 1 ≤ g := ltI_f.1 h4
          conv => cbv
          refine Br.mk (fun h5 => ?_) (fun h5 => ?_)
          · have h5 : g ≤ 1048576 - v / 4096 := by have h : g ≤ subI .i64 1048576 (convI .i64 (quoI .u32 v 4096)) := leI_t.1 h5; rw [s1] at h; exact h
            conv => cbv
            refine (LeOut.mk' [0] (by decide) rfl (by decide) ?_ (by cbv)).two
            conv => cbv
            show b = leI g (subI .i64 4096 (convI .i64 (quoI .u32 ph 4096)))
            rw [s2, leI_eq]
            by_cases h6 : g ≤ 4096 - ph / 4096
            · rw [decide_eq_true h6]; exact hiff.2 ⟨he.symm.trans h1, h2, h3, h4, h5, h6⟩
            · rw [decide_eq_false h6]; exact hno (fun h => h6 h.2.2.2.2.2)
          · have h5 : ¬ g ≤ 1048576 - v / 4096 := by have h : subI .i64 1048576 (convI .i64 (quoI .u32 v 4096)) < g := leI_f.1 h5; rw [s1] at h; omega
            have hf := hno (fun h => h5 h.2.2.2.2.1)
            conv => cbv
            refine (LeOut.mk' [0] (by decide) rfl (by decide) ?_ (by cbv)).two
            conv => cbv
            exact hf
noncomputable def I42 : FnT := [(42, fi Try.f42 ⟨[], 0⟩)]
theorem I42ok : FnsOk kit I42 := ⟨fo42 _, trivial⟩
theorem rall_spec (V PH G P : List Int) (m cap : Nat) (hL : RgsOk ⟨V, PH, G, P⟩ m) {b : Bool} (hb : b = !(List.range m).any (badR ⟨V, PH, G, P⟩)) :
    Spec1 kit 42 [.slc 0 0 4 (.lit 0) (.ex m) (.ex cap)] [.ro [.rows 4 (.ex m) (rngF V PH G P)]] false (.b (.ex b)) [.ro [.rows 4 (.ex m) (rngF V PH G P)]] [] := by
  obtain ⟨h1, h2, h3, h4, h5⟩ := hL
  simp only at h1 h2 h3 h4
  refine Spec1.mk2 rfl fun F => ?_
  refine into I42ok 6 ?_
  conv => cbv
  refine byInv I42ok 6 ⟨[], 0⟩ (fun z : Int => ⟨[(3, .i .i64 (.ex z)), (0, .slc 0 0 4 (.lit 0) (.ex m) (.ex cap))], [.ro [.rows 4 (.ex m) (rngF V PH G P)], .abs F]⟩)
    (fun z => (m - z).toNat) (fun z => 0 ≤ z ∧ z ≤ m ∧ ∀ j, j < z.toNat → badR ⟨V, PH, G, P⟩ j = false) false 0 (by kernel_rfl) ⟨by omega, by omega, fun j hj => by simp at hj⟩ (LeSt.mk' [0, 1] (by decide) (by rfl) (by decide) (by cbv) ?_) ?_
  · conv => cbv
    exact ⟨⟨fun j _ => rngF_le _ _, trivial⟩, trivial⟩
  rintro z ⟨hz0, hz1, hz2⟩
  obtain ⟨z1, hz1'⟩ : ∃ x, z + 1 = x := ⟨_, rfl⟩
  obtain ⟨k, hk⟩ : ∃ x : Nat, z.toNat = x := ⟨_, rfl⟩
  obtain ⟨vk, hvk⟩ : ∃ x, x = V.getD k 0 := ⟨_, rfl⟩
  obtain ⟨phk, hphk⟩ : ∃ x, x = PH.getD k 0 := ⟨_, rfl⟩
  obtain ⟨gk, hgk⟩ : ∃ x, x = G.getD k 0 := ⟨_, rfl⟩
  obtain ⟨pk, hpk⟩ : ∃ x, x = P.getD k 0 := ⟨_, rfl⟩
  obtain ⟨bm, hbm⟩ : ∃ x, x = mayB vk phk gk pk := ⟨_, rfl⟩
  conv => cbv
  refine Br.mk (fun hc => ?_) (fun hc => ?_)
  · have hc : z < (m : Int) := by have h : z < ofN m := ltI_t.1 hc; rw [ofN_eq] at h; exact h
    conv => cbv
    refine ⟨inR.mk hz0 hc, nLt.mk (by simp only [leafs]; omega), ?_⟩
    refine OkCall.by_spec (rmay_spec vk phk gk pk (hvk ▸ h1 k) (hphk ▸ h2 k) (hpk ▸ h4 k) hbm) [] (by decide) ?_ trivial ?_
    · conv => cbv
      refine ⟨⟨?_, ?_, ?_, ?_, trivial⟩, trivial⟩
      · show vk = gi V (toN z); rw [gi_eq, toN_eq, hk, hvk]
      · show phk = gi PH (toN z); rw [gi_eq, toN_eq, hk, hphk]
      · show gk = gi G (toN z); rw [gi_eq, toN_eq, hk, hgk]
      · show pk = gi P (toN z); rw [gi_eq, toN_eq, hk, hpk]
    conv => cbv
    refine Br.mk (fun hd => ?_) (fun hd => ?_)
    · have hd : notB bm = true := hd
      rw [notB_eq, Bool.not_eq_true'] at hd
      have hno : b = false := by
        rw [hb, Bool.not_eq_false', List.any_eq_true]
        exact ⟨k, List.mem_range.2 (by omega), by simp only [badR]; rw [← hvk, ← hphk, ← hgk, ← hpk, ← hbm, hd]; rfl⟩
      conv => cbv
      refine (LeOut.mk' [0, 1] (by decide) (by rfl) (by decide) ?_ ?_).two
      · conv => cbv
        exact hno
      · conv => cbv
        exact ⟨⟨fun j _ => rngF_le _ _, trivial⟩, trivial⟩
    · have hd : notB bm = false := hd
      rw [notB_eq, Bool.not_eq_false'] at hd
      conv => cbv
      refine ⟨z1, ⟨⟨by omega, by show z1 ≤ (m : Int); omega, fun j hj => ?_⟩, by show ((m : Int) - z1).toNat < ((m : Int) - z).toNat; omega⟩, _, (HImp.refl _).ext, LeSt.mk' [0, 1] (by decide) (by rfl) (by decide) ?_ ?_⟩
      · by_cases hjz : j < z.toNat
        · exact hz2 j hjz
        · have : j = k := by omega
          subst this
          simp only [badR]; rw [← hvk, ← hphk, ← hgk, ← hpk, ← hbm, hd]; rfl
      · conv => cbv
        refine ⟨?_, trivial⟩
        show z1 = addI .i64 z 1
        rw [addI_eq, IntWalk.i64_in _ (by omega), hz1']
      · conv => cbv
        exact ⟨⟨fun j _ => rngF_le _ _, trivial⟩, trivial⟩
  · have hc : (m : Int) ≤ z := by have h : ofN m ≤ z := ltI_f.1 hc; rw [ofN_eq] at h; exact h
    have hyes : b = true := by
      rw [hb, Bool.not_eq_true', List.any_eq_false]
      intro x hx
      have := hz2 x (by have := List.mem_range.1 hx; omega)
      rw [this]; decide
    conv => cbv
    refine (LeOut.mk' [0, 1] (by decide) (by rfl) (by decide) ?_ ?_).two
    · conv => cbv
      exact hyes
    · conv => cbv
      exact ⟨⟨fun j _ => rngF_le _ _, trivial⟩, trivial⟩
noncomputable def usedF (u : Nat → Bool) (j : Nat) : List SV := [.b (.ex (u j))]
theorem usedF_le (u : Nat → Bool) (τ : Nat → Nat) (j : Nat) : leL (usedF u j) (renL τ (usedF u j)) := ⟨rfl, trivial⟩
def UsedIs (u : Nat → Bool) (acc : List Int) : Prop := ∀ j : Nat, u j = decide ((j : Int) ∈ acc)
noncomputable def I13 : FnT := [(13, fi Try.f13 ⟨[], 0⟩)]
theorem I13ok : FnsOk kit I13 := ⟨fo13 _, trivial⟩
theorem rneed_spec (V PH G P : List Int) (m cap : Nat) (hL : RgsOk ⟨V, PH, G, P⟩ m) {r : Int} (hr : r = needP ⟨V, PH, G, P⟩ m) :
    Spec1 kit 13 [.slc 0 0 4 (.lit 0) (.ex m) (.ex cap)] [.ro [.rows 4 (.ex m) (rngF V PH G P)]] false (.i .i64 (.ex r)) [.ro [.rows 4 (.ex m) (rngF V PH G P)]] [] := by
  have hL0 := hL
  obtain ⟨h1, h2, h3, h4, h5⟩ := hL
  simp only at h1 h2 h3 h4
  refine Spec1.mk2 rfl fun F => ?_
  obtain ⟨b, hb⟩ : ∃ x, x = !(List.range m).any (badR ⟨V, PH, G, P⟩) := ⟨_, rfl⟩
  refine into I13ok 6 ?_
  conv => cbv
  refine OkCall.by_spec (rall_spec V PH G P m cap hL0 hb) [0] (by decide) (by cbv) ?_ ?_
  · conv => cbv
    exact ⟨⟨fun j _ => rngF_le _ _, trivial⟩, trivial⟩
  conv => cbv
  refine Br.mk (fun hc => ?_) (fun hc => ?_)
  · have hc : notB b = true := hc
    rw [notB_eq, hb, Bool.not_not] at hc
    have hr0 : r = 0 := by rw [hr, needP, if_pos hc]
    conv => cbv
    refine (LeOut.mk' [0, 1] (by decide) (by rfl) (by decide) ?_ ?_).two
    · conv => cbv
      exact hr0
    · conv => cbv
      exact ⟨⟨fun j _ => rngF_le _ _, trivial⟩, trivial⟩
  · have hc : notB b = false := hc
    rw [notB_eq, hb, Bool.not_not] at hc
    have hz2 : ∀ j, j < m → badR ⟨V, PH, G, P⟩ j = false := fun j hj => by
      have := List.any_eq_false.1 hc j (List.mem_range.2 hj)
      simpa using this
    have hg : ∀ j, j < m → mayB (V.getD j 0) (PH.getD j 0) (G.getD j 0) (P.getD j 0) = true := fun j hj => by
      have := hz2 j hj
      simp only [badR] at this
      simpa using this
    rw [needP, if_neg (by rw [hc]; decide)] at hr
    conv => cbv
    refine ⟨by show mkOk 1024 1024 1; rw [mkOk_eq]; decide, ?_⟩
    refine byInv I13ok 6 ⟨[], 0⟩ (fun a : Int × List Int × Int × (Nat → Bool) => ⟨[(6, .i .i64 (.ex a.1)), (5, .i .i64 (.ex a.2.2.1)), (4, .slc 2 0 1 (.lit 0) (.lit 1024) (.lit 1024)), (0, .slc 0 0 4 (.lit 0) (.ex m) (.ex cap))], [.ro [.rows 4 (.ex m) (rngF V PH G P)], .abs F, .cells 4 [.rows 1 (.lit 1024) (usedF a.2.2.2)]]⟩)
      (fun a => (m - a.1).toNat) (fun a => 0 ≤ a.1 ∧ a.1 ≤ m ∧ a.2.1 = keysOf ⟨V, PH, G, P⟩ a.1.toNat ∧ a.2.2.1 = 1 + (a.2.1.length : Int) ∧ UsedIs a.2.2.2 a.2.1) false (0, [], 1, fun _ => false) (by kernel_rfl) ⟨by omega, by omega, rfl, rfl, fun j => by simp⟩ (LeSt.mk' [0, 1, 3] (by decide) (by rfl) (by decide) (by cbv) ?_) ?_
    · conv => cbv
      exact ⟨⟨fun j _ => rngF_le _ _, trivial⟩, ⟨fun j _ => ⟨rfl, trivial⟩, trivial⟩, trivial⟩
    rintro ⟨z, acc, cn, us⟩ ⟨hz0, hz1, hacc, hcn, hus⟩
    simp only at hz0 hz1 hacc hcn hus
    obtain ⟨z1, hz1'⟩ : ∃ x, z + 1 = x := ⟨_, rfl⟩
    obtain ⟨k, hk⟩ : ∃ x : Nat, z.toNat = x := ⟨_, rfl⟩
    obtain ⟨vk, hvk⟩ : ∃ x, x = V.getD k 0 := ⟨_, rfl⟩
    obtain ⟨gk, hgk⟩ : ∃ x, x = G.getD k 0 := ⟨_, rfl⟩
    obtain ⟨fk, hfk⟩ : ∃ x, x = vk / 4096 := ⟨_, rfl⟩
    obtain ⟨lo, hlo⟩ : ∃ x, x = fk / 1024 := ⟨_, rfl⟩
    obtain ⟨hi, hhi⟩ : ∃ x, x = (fk + gk - 1) / 1024 := ⟨_, rfl⟩
    have hgv : gi V (toN z) = vk := by rw [gi_eq, toN_eq, hk, hvk]
    have hgg : gi G (toN z) = gk := by rw [gi_eq, toN_eq, hk, hgk]
    have hvu : 0 ≤ vk ∧ vk < 4294967296 := hvk ▸ h1 k
    conv => cbv
    refine Br.mk (fun hd => ?_) (fun hd => ?_)
    · have hd : z < (m : Int) := by have h : z < ofN m := ltI_t.1 hd; rw [ofN_eq] at h; exact h
      have hgd := of_decide_eq_true (hg k (by omega))
      rw [← hvk, ← hgk] at hgd
      have hffk : convI .i64 (quoI .u32 vk 4096) = fk := by
        rw [quoI_eq, Int.tdiv_eq_ediv_of_nonneg hvu.1, wrap_u32, convI_eq, IntWalk.i64_in _ (by omega), hfk]; omega
      have hllo : quoI .i64 fk 1024 = lo := by rw [quoI_eq, Int.tdiv_eq_ediv_of_nonneg (by omega), IntWalk.i64_in _ (by omega), hlo]
      have hhhi : quoI .i64 (subI .i64 (addI .i64 fk gk) 1) 1024 = hi := by
        rw [addI_eq, IntWalk.i64_in _ (by omega), subI_eq, IntWalk.i64_in _ (by omega), quoI_eq, Int.tdiv_eq_ediv_of_nonneg (by omega), IntWalk.i64_in _ (by omega), hhi]
      conv => cbv
      refine ⟨inR.mk hz0 hd, nLt.mk (by simp only [leafs]; omega), ?_⟩
      refine byInv I13ok 6 ⟨[], 0⟩ (fun a : Int × List Int × Int × (Nat → Bool) => ⟨[(8, .i .i64 (.ex a.1)), (7, .i .i64 (.ex fk)), (6, .i .i64 (.ex z)), (5, .i .i64 (.ex a.2.2.1)), (4, .slc 2 0 1 (.lit 0) (.lit 1024) (.lit 1024)), (0, .slc 0 0 4 (.lit 0) (.ex m) (.ex cap))], [.ro [.rows 4 (.ex m) (rngF V PH G P)], .abs F, .cells 4 [.rows 1 (.lit 1024) (usedF a.2.2.2)]]⟩)
        (fun a => (hi + 1 - a.1).toNat) (fun a => lo ≤ a.1 ∧ a.1 ≤ hi + 1 ∧ a.2.1 = ((List.range (a.1 - lo).toNat).map fun (j : Nat) => lo + j).foldl insU acc ∧ a.2.2.1 = 1 + (a.2.1.length : Int) ∧ UsedIs a.2.2.2 a.2.1) false (lo, acc, cn, us) (by kernel_rfl) ⟨by omega, by omega, by simp, hcn, hus⟩ (LeSt.mk' (List.range 3) (by decide) (by rfl) (by decide) ?_ ?_) ?_
      · conv => cbv
        refine ⟨?_, ?_, trivial⟩
        · show lo = quoI .i64 (convI .i64 (quoI .u32 (gi V (toN z)) 4096)) 1024; rw [hgv, hffk, hllo]
        · show fk = convI .i64 (quoI .u32 (gi V (toN z)) 4096); rw [hgv, hffk]
      · conv => cbv
        exact ⟨⟨fun j _ => rngF_le _ _, trivial⟩, ⟨fun j _ => usedF_le _ _ _, trivial⟩, trivial⟩
      rintro ⟨x, acc2, c2, u2⟩ ⟨hx0, hx1, hacc2, hc2, hu2⟩
      simp only at hx0 hx1 hacc2 hc2 hu2
      obtain ⟨u3, hu3⟩ : ∃ u : Nat → Bool, u = fun j => if j = x.toNat then true else u2 j := ⟨_, rfl⟩
      obtain ⟨x1, hx1'⟩ : ∃ y, y = x + 1 := ⟨_, rfl⟩
      obtain ⟨c3, hc3⟩ : ∃ y, y = c2 + 1 := ⟨_, rfl⟩
      obtain ⟨acc3, hacc3⟩ : ∃ y, y = insU acc2 x := ⟨_, rfl⟩
      conv => cbv
      refine ⟨inR.mk hz0 hd, nLt.mk (by simp only [leafs]; omega), Br.mk (fun he => ?_) (fun he => ?_)⟩
      · have he : leI x (quoI .i64 (subI .i64 (addI .i64 fk (gi G (toN z))) 1) 1024) = true := he
        rw [hgg, hhhi, leI_t] at he
        have hxb : 0 ≤ x ∧ x < 1024 := by omega
        have hab : acc.Nodup ∧ ∀ y ∈ acc, 0 ≤ y ∧ y < (1024 : Nat) := by
          rw [hacc, hk]
          refine insU_bd (n := 1024) _ [] ⟨by simp, by simp⟩ (fun y hy => ?_)
          simp only [allFsts, List.mem_flatMap, List.mem_range] at hy
          obtain ⟨a, ha, hy⟩ := hy
          exact fsts_bd hL0 (hg a (by omega)) y hy
        have hal : acc2.length ≤ 1024 := by
          have := insU_bd (n := 1024) ((List.range (x - lo).toNat).map fun (j : Nat) => lo + (j : Int)) acc hab (fun y hy => by
            simp only [List.mem_map, List.mem_range] at hy
            obtain ⟨j, hj, rfl⟩ := hy
            omega)
          rw [hacc2]
          exact nodup_lt 1024 _ this.1 this.2
        conv => cbv
        refine ⟨inR.mk hxb.1 (by omega), nLt.mk (by simp only [leafs]; omega), Br.mk (fun hu => ?_) (fun hu => ?_)⟩
        · have hu : notB (u2 (toN x)) = true := hu
          have hxt : ((toN x : Nat) : Int) = x := by rw [toN_eq]; omega
          rw [notB_eq, hu2, hxt, Bool.not_eq_true', decide_eq_false_iff_not] at hu
          have hins : acc3 = acc2 ++ [x] := by rw [hacc3, insU, if_neg hu]
          have hu4 : UsedIs u3 acc3 := fun j => by
            rw [hu3, hins]
            simp only [List.mem_append, List.mem_singleton]
            by_cases e : j = x.toNat
            · rw [if_pos e]; have : (j : Int) = x := by omega
              simp [this]
            · rw [if_neg e, hu2 j]; have : ¬ (j : Int) = x := by omega
              simp [this]
          conv => cbv
          refine ⟨inR.mk hxb.1 (by omega), nLt.mk (by simp only [leafs]; omega), ?_⟩
          refine ⟨(x1, acc3, c3, u3), ⟨⟨by show lo ≤ x1; omega, by show x1 ≤ hi + 1; omega, ?_, by show c3 = 1 + (acc3.length : Int); rw [hins, List.length_append, hc3, hc2]; simp; omega, hu4⟩, by show (hi + 1 - x1).toNat < (hi + 1 - x).toNat; omega⟩, _, (HImp.refl _).ext, LeSt.mk' (List.range 3) (by decide) (by rfl) (by decide) ?_ ?_⟩
          · show acc3 = ((List.range (x1 - lo).toNat).map fun (j : Nat) => lo + j).foldl insU acc
            have ex : (x1 - lo).toNat = (x - lo).toNat + 1 := by omega
            rw [ex, List.range_succ, List.map_append, List.foldl_append, ← hacc2, hacc3]
            have : lo + ((x - lo).toNat : Int) = x := by omega
            simp only [List.map_cons, List.map_nil, List.foldl_cons, List.foldl_nil]
            rw [this]
          · conv => cbv
            refine ⟨?_, ?_, trivial⟩
            · show x1 = addI .i64 x 1
              rw [addI_eq, IntWalk.i64_in _ (by omega), hx1']
            · show c3 = addI .i64 c2 1
              rw [addI_eq, IntWalk.i64_in _ (by omega), hc3]
          · conv => cbv
            refine ⟨⟨fun j _ => rngF_le _ _, trivial⟩, ⟨fun j _ => ?_, trivial⟩, trivial⟩
            show leL (upd (usedF u2) (toN x) [.b (.lit true)] j) (usedF u3 j)
            rw [upd_eq, toN_eq]
            show leL (if j = x.toNat then [.b (.lit true)] else usedF u2 j) (usedF u3 j)
            by_cases e : j = x.toNat
            · rw [if_pos e]
              refine ⟨?_, trivial⟩
              show u3 j = true
              rw [hu3]; simp only [if_pos e]
            · rw [if_neg e]
              refine ⟨?_, trivial⟩
              show u3 j = u2 j
              rw [hu3]; simp only [if_neg e]
        · have hu : notB (u2 (toN x)) = false := hu
          have hxt : ((toN x : Nat) : Int) = x := by rw [toN_eq]; omega
          rw [notB_eq, hu2, hxt, Bool.not_eq_false', decide_eq_true_eq] at hu
          have hins : acc3 = acc2 := by rw [hacc3, insU, if_pos hu]
          conv => cbv
          refine ⟨(x1, acc3, c2, u2), ⟨⟨by show lo ≤ x1; omega, by show x1 ≤ hi + 1; omega, ?_, by show c2 = 1 + (acc3.length : Int); rw [hins, hc2], by show UsedIs u2 acc3; rw [hins]; exact hu2⟩, by show (hi + 1 - x1).toNat < (hi + 1 - x).toNat; omega⟩, _, (HImp.refl _).ext, LeSt.mk' (List.range 3) (by decide) (by rfl) (by decide) ?_ ?_⟩
          · show acc3 = ((List.range (x1 - lo).toNat).map fun (j : Nat) => lo + j).foldl insU acc
            have ex : (x1 - lo).toNat = (x - lo).toNat + 1 := by omega
            rw [ex, List.range_succ, List.map_append, List.foldl_append, ← hacc2, hacc3]
            have : lo + ((x - lo).toNat : Int) = x := by omega
            simp only [List.map_cons, List.map_nil, List.foldl_cons, List.foldl_nil]
            rw [this]
          · conv => cbv
            refine ⟨?_, trivial⟩
            show x1 = addI .i64 x 1
            rw [addI_eq, IntWalk.i64_in _ (by omega), hx1']
          · conv => cbv
            exact ⟨⟨fun j _ => rngF_le _ _, trivial⟩, ⟨fun j _ => usedF_le _ _ _, trivial⟩, trivial⟩
      · have he : leI x (quoI .i64 (subI .i64 (addI .i64 fk (gi G (toN z))) 1) 1024) = false := he
        rw [hgg, hhhi, leI_f] at he
        have hx : x = hi + 1 := by omega
        have hend : acc2 = keysOf ⟨V, PH, G, P⟩ z1.toNat := by
          have ez : z1.toNat = k + 1 := by omega
          rw [ez, keysOf, allFsts, List.range_succ, List.flatMap_append, List.foldl_append]
          rw [hacc2, hacc, hk, keysOf, allFsts, hx]
          simp only [List.flatMap_cons, List.flatMap_nil, List.append_nil, fstsOf]
          rw [← hvk, ← hgk, ← hfk, ← hlo, ← hhi]
          have : (hi + 1 - lo).toNat = (hi - lo + 1).toNat := by omega
          rw [this]
        conv => cbv
        refine ⟨(z1, acc2, c2, u2), ⟨⟨by show 0 ≤ z1; omega, by show z1 ≤ (m : Int); omega, hend, hc2, hu2⟩, by show ((m : Int) - z1).toNat < ((m : Int) - z).toNat; omega⟩, _, (HImp.refl _).ext, LeSt.mk' (List.range 3) (by decide) (by rfl) (by decide) ?_ ?_⟩
        · conv => cbv
          refine ⟨?_, trivial⟩
          show z1 = addI .i64 z 1
          rw [addI_eq, IntWalk.i64_in _ (by omega), hz1']
        · conv => cbv
          exact ⟨⟨fun j _ => rngF_le _ _, trivial⟩, ⟨fun j _ => usedF_le _ _ _, trivial⟩, trivial⟩
    · have hd : (m : Int) ≤ z := by have h : ofN m ≤ z := ltI_f.1 hd; rw [ofN_eq] at h; exact h
      have hzm : z.toNat = m := by omega
      rw [hzm] at hacc
      conv => cbv
      refine (LeOut.mk' [0, 1] (by decide) (by rfl) (by decide) ?_ ?_).two
      · conv => cbv
        show r = cn
        rw [hr, hcn, hacc]
      · conv => cbv
        exact ⟨⟨fun j _ => rngF_le _ _, trivial⟩, trivial⟩
end Go.Proofs.Ytnefllaeleihcaa
end

/-
  The law's lent and kept.
-/
section
namespace Go.Proofs.Ytnefllaeleihcaa
open Go Go.Vex
set_option maxRecDepth 20000
set_option maxHeartbeats 4000000
/-- A column with eight marks behind it. -/
def extL (m : Nat) (x : Int) (V : List Int) : List Int := (List.range m).map (fun j => V.getD j 0) ++ List.replicate 8 x
theorem extL_lo {m : Nat} {x : Int} {V : List Int} {j : Nat} (h : j < m) : (extL m x V).getD j 0 = V.getD j 0 := by
  simp [extL, List.getD_eq_getElem?_getD, List.getElem?_append_left (show j < ((List.range m).map fun j => V[j]?.getD 0).length by simpa using h), h]
theorem extL_hi {m : Nat} {x : Int} {V : List Int} {j : Nat} (h : m ≤ j) (h8 : j < m + 8) : (extL m x V).getD j 0 = x := by
  rw [extL, List.getD_eq_getElem?_getD, List.getElem?_append_right (by simpa using h), List.getElem?_replicate, if_pos (by simp; omega)]; rfl
noncomputable def I10 : FnT := [(10, fi Try.f10 ⟨[], 0⟩)]
theorem I10ok : FnsOk kit I10 := ⟨fo10 _, trivial⟩
theorem lent_spec (V PH G P : List Int) (m c : Nat) (hm : m < 1000000) {V1 PH1 G1 P1 : List Int} (hV : V1 = extL m 0 V) (hPH : PH1 = extL m 0 PH) (hG : G1 = extL m (-77) G) (hP : P1 = extL m 0 P) {m8 : Nat} (hm8 : m8 = m + 8) :
    SpecM kit 10 [.slc 0 0 4 (.lit 0) (.ex m) (.ex c)] [.ro [.rows 4 (.ex m) (rngF V PH G P)]] fun q v hp1 new => q = false ∧ hp1 = [.ro [.rows 4 (.ex m) (rngF V PH G P)]] ∧ ∃ cap jc, m8 ≤ cap ∧ cap - m8 = jc ∧ v = .slc 2 0 4 (.lit 0) (.ex m8) (.ex cap) ∧ new = [.cells 31 [.rows 4 (.ex m8) (rngF V1 PH1 G1 P1), .junk 4 (.ex jc)]] := by
  refine SpecM.mk2 fun F => ?_
  refine into I10ok 6 ?_
  conv => cbv
  refine ⟨by show eqN m m; rw [eqN_eq], by show apOk m 24; rw [apOk_eq]; omega, AllN.mk fun cap0 hcap0 => ?_⟩
  obtain ⟨jc0, hjc0⟩ : ∃ x, cap0 - m = x := ⟨_, rfl⟩
  have hrow : ∀ j, j < m → leL (rngF V PH G P j) (rngF V1 PH1 G1 P1 j) := fun j hj => by
    refine ⟨⟨rfl, ?_⟩, ⟨rfl, ?_⟩, ⟨rfl, ?_⟩, ⟨rfl, ?_⟩, trivial⟩ <;> (show gi _ _ = gi _ _; rw [gi_eq, gi_eq])
    · rw [hV, extL_lo hj]
    · rw [hPH, extL_lo hj]
    · rw [hG, extL_lo hj]
    · rw [hP, extL_lo hj]
  have hmark : ∀ j, m ≤ j → j < m + 8 → leL [.i .u32 (.lit 0), .i .u32 (.lit 0), .i .i64 (.lit (-77)), .i .u8 (.lit 0)] (rngF V1 PH1 G1 P1 j) := fun j hj hj8 => by
    refine ⟨⟨rfl, ?_⟩, ⟨rfl, ?_⟩, ⟨rfl, ?_⟩, ⟨rfl, ?_⟩, trivial⟩ <;> (show gi _ _ = _; rw [gi_eq])
    · rw [hV, extL_hi hj hj8]; rfl
    · rw [hPH, extL_hi hj hj8]; rfl
    · rw [hG, extL_hi hj hj8]; rfl
    · rw [hP, extL_hi hj hj8]; rfl
  conv => cbv
  refine byInv I10ok 6 ⟨[], 0⟩ (fun a : Int × Nat × Nat × Nat => ⟨[(4, .i .i64 (.ex a.1)), (3, .slc 2 0 4 (.lit 0) (.ex a.2.1) (.ex a.2.2.1))], [.ro [.rows 4 (.ex m) (rngF V PH G P)], .abs F, .cells 31 [.rows 4 (.ex a.2.1) (rngF V1 PH1 G1 P1), .junk 4 (.ex a.2.2.2)]]⟩)
    (fun a => (8 - a.1).toNat) (fun a => 0 ≤ a.1 ∧ a.1 ≤ 8 ∧ a.2.1 = m + a.1.toNat ∧ a.2.1 ≤ a.2.2.1 ∧ a.2.2.1 - a.2.1 = a.2.2.2) false (0, m, cap0, jc0) (by kernel_rfl) ⟨by omega, by omega, rfl, hcap0, hjc0⟩ (LeSt.mk' [0, 1, 2] (by decide) (by rfl) (by decide) ?_ ?_) ?_
  · conv => cbv
    trivial
  · conv => cbv
    refine ⟨⟨fun j _ => rngF_le _ _, trivial⟩, ⟨fun j hj => hrow j hj, ?_, trivial⟩, trivial⟩
    show jc0 = subN cap0 m
    rw [subN_eq, hjc0]
  rintro ⟨z, n, cap, jc⟩ ⟨hz0, hz1, hn, hcap, hjc⟩
  simp only at hz0 hz1 hn hcap hjc
  obtain ⟨z1, hz1'⟩ : ∃ x, x = z + 1 := ⟨_, rfl⟩
  obtain ⟨n1, hn1⟩ : ∃ x, x = n + 1 := ⟨_, rfl⟩
  conv => cbv
  refine Br.mk (fun hc => ?_) (fun hc => ?_)
  · have hc : z < 8 := ltI_t.1 hc
    conv => cbv
    refine ⟨by show eqN n n; rw [eqN_eq], by show eqN (addN n jc) cap; rw [eqN_eq, addN_eq]; omega, by show apOk (addN n 1) 24; rw [apOk_eq, addN_eq]; omega, AllN.mk fun cap1 hcap1 => ?_⟩
    have hcap1 : n1 ≤ cap1 := by have h : addN n 1 ≤ cap1 := hcap1; rw [addN_eq] at h; omega
    obtain ⟨jc1, hjc1⟩ : ∃ x, cap1 - n1 = x := ⟨_, rfl⟩
    conv => cbv
    refine ⟨(z1, n1, cap1, jc1), ⟨⟨by show 0 ≤ z1; omega, by show z1 ≤ 8; omega, by show n1 = m + z1.toNat; omega, hcap1, hjc1⟩, by show (8 - z1).toNat < (8 - z).toNat; omega⟩, _, (HImp.refl _).ext, LeSt.mk' [0, 1, 4] (by decide) (by rfl) (by decide) ?_ ?_⟩
    · conv => cbv
      refine ⟨?_, ⟨?_, trivial⟩, trivial⟩
      · show z1 = addI .i64 z 1
        rw [addI_eq, IntWalk.i64_in _ (by omega), hz1']
      · show n1 = addN n 1
        rw [addN_eq, hn1]
    · conv => cbv
      refine ⟨⟨fun j _ => rngF_le _ _, trivial⟩, ⟨⟨?_, fun j hj => ?_⟩, ?_, trivial⟩, trivial⟩
      · show n1 = addN n 1
        rw [addN_eq, hn1]
      · have hj : j < addN n 1 := hj
        rw [addN_eq] at hj
        show leL (jn (rngF V1 PH1 G1 P1) (fun _ => [.i .u32 (.lit 0), .i .u32 (.lit 0), .i .i64 (.lit (-77)), .i .u8 (.lit 0)]) n j) (rngF V1 PH1 G1 P1 j)
        rw [jn_eq]
        show leL (if j < n then rngF V1 PH1 G1 P1 j else _) _
        by_cases hjn : j < n
        · rw [if_pos hjn]; exact rngF_le id j
        · rw [if_neg hjn]; exact hmark j (by omega) (by omega)
      · show jc1 = subN cap1 (addN n 1)
        rw [subN_eq, addN_eq, ← hjc1, hn1]
  · have hc : 8 ≤ z := ltI_f.1 hc
    have hn8 : n = m8 := by omega
    subst hn8
    conv => cbv
    refine ⟨_, _, _, _, ⟨rfl, rfl, cap, jc, hcap, hjc, rfl, rfl⟩, rfl, (LeOut.mk' [0, 1, 2] (by decide) (by rfl) (by decide) (by cbv) ?_).two⟩
    conv => cbv
    exact ⟨⟨fun j _ => rngF_le _ _, trivial⟩, ⟨fun j _ => rngF_le _ _, trivial⟩, trivial⟩
noncomputable def I30 : FnT := [(30, fi Try.f30 ⟨[], 0⟩)]
theorem I30ok : FnsOk kit I30 := ⟨fo30 _, trivial⟩
def sameR (A B C D A' B' C' D' : List Int) (m : Nat) : Prop := ∀ j, j < m → A.getD j 0 = A'.getD j 0 ∧ B.getD j 0 = B'.getD j 0 ∧ C.getD j 0 = C'.getD j 0 ∧ D.getD j 0 = D'.getD j 0
theorem sameRanges_spec (A B A' B' C D C' D' : List Int) (m k c1 c2 : Nat) (hm : m < 4611686018427307904) {b : Bool} (hb : b = true ↔ m = k ∧ sameR A B C D A' B' C' D' m) :
    Spec1 kit 30 [.slc 0 0 4 (.lit 0) (.ex m) (.ex c1), .slc 1 0 4 (.lit 0) (.ex k) (.ex c2)] [.ro [.rows 4 (.ex m) (rngF A B C D)], .ro [.rows 4 (.ex k) (rngF A' B' C' D')]] false (.b (.ex b)) [.ro [.rows 4 (.ex m) (rngF A B C D)], .ro [.rows 4 (.ex k) (rngF A' B' C' D')]] [] := by
  refine Spec1.mk2 rfl fun F => ?_
  refine into I30ok 6 ?_
  conv => cbv
  refine Br.mk (fun hc => ?_) (fun hc => ?_)
  · have hc : ofN m ≠ ofN k := neI_t.1 hc
    rw [ofN_eq, ofN_eq] at hc
    have hbf : b = false := by
      cases b with
      | false => rfl
      | true => have := (hb.1 rfl).1; omega
    conv => cbv
    refine (LeOut.mk' [0, 1, 2] (by decide) (by rfl) (by decide) ?_ ?_).two
    · conv => cbv
      exact hbf
    · conv => cbv
      exact ⟨⟨fun j _ => rngF_le _ _, trivial⟩, ⟨fun j _ => rngF_le _ _, trivial⟩, trivial⟩
  · have hc : ofN m = ofN k := neI_f.1 hc
    rw [ofN_eq, ofN_eq] at hc
    have hmk : m = k := by omega
    conv => cbv
    refine byInv I30ok 6 ⟨[], 0⟩ (fun z : Int => ⟨[(5, .i .i64 (.ex z)), (0, .slc 0 0 4 (.lit 0) (.ex m) (.ex c1)), (1, .slc 1 0 4 (.lit 0) (.ex k) (.ex c2))], [.ro [.rows 4 (.ex m) (rngF A B C D)], .ro [.rows 4 (.ex k) (rngF A' B' C' D')], .abs F]⟩)
      (fun z => (m - z).toNat) (fun z => 0 ≤ z ∧ z ≤ m ∧ sameR A B C D A' B' C' D' z.toNat) false 0 (by kernel_rfl) ⟨by omega, by omega, fun j hj => by simp at hj⟩ (LeSt.mk' [0, 1, 2] (by decide) (by rfl) (by decide) (by cbv) ?_) ?_
    · conv => cbv
      exact ⟨⟨fun j _ => rngF_le _ _, trivial⟩, ⟨fun j _ => rngF_le _ _, trivial⟩, trivial⟩
    rintro z ⟨hz0, hz1, hz2⟩
    obtain ⟨z1, hz1'⟩ : ∃ x, z + 1 = x := ⟨_, rfl⟩
    conv => cbv
    refine Br.mk (fun hd => ?_) (fun hd => ?_)
    · have hd : z < (m : Int) := by have h : z < ofN m := ltI_t.1 hd; rw [ofN_eq] at h; exact h
      conv => cbv
      refine ⟨inR.mk hz0 hd, nLt.mk (by simp only [leafs]; omega), inR.mk hz0 (by omega), nLt.mk (by simp only [leafs]; omega), Br.mk (fun he => ?_) (fun he => ?_)⟩
      · have he : notB (andB (eqI (gi A (toN z)) (gi A' (toN z))) (andB (eqI (gi B (toN z)) (gi B' (toN z))) (andB (eqI (gi C (toN z)) (gi C' (toN z))) (eqI (gi D (toN z)) (gi D' (toN z)))))) = true := he
        rw [notB_eq, andB_eq, andB_eq, andB_eq, gi_eq, gi_eq, gi_eq, gi_eq, gi_eq, gi_eq, gi_eq, gi_eq, toN_eq] at he
        have hbf : b = false := by
          cases b with
          | false => rfl
          | true =>
            have := (hb.1 rfl).2 z.toNat (by omega)
            rw [this.1, this.2.1, this.2.2.1, this.2.2.2, eqI_t.2 rfl, eqI_t.2 rfl, eqI_t.2 rfl, eqI_t.2 rfl] at he
            cases he
        conv => cbv
        refine (LeOut.mk' [0, 1, 2] (by decide) (by rfl) (by decide) ?_ ?_).two
        · conv => cbv
          exact hbf
        · conv => cbv
          exact ⟨⟨fun j _ => rngF_le _ _, trivial⟩, ⟨fun j _ => rngF_le _ _, trivial⟩, trivial⟩
      · have he : notB (andB (eqI (gi A (toN z)) (gi A' (toN z))) (andB (eqI (gi B (toN z)) (gi B' (toN z))) (andB (eqI (gi C (toN z)) (gi C' (toN z))) (eqI (gi D (toN z)) (gi D' (toN z)))))) = false := he
        rw [notB_eq, andB_eq, andB_eq, andB_eq, Bool.not_eq_false', Bool.and_eq_true, Bool.and_eq_true, Bool.and_eq_true, eqI_t, eqI_t, eqI_t, eqI_t, gi_eq, gi_eq, gi_eq, gi_eq, gi_eq, gi_eq, gi_eq, gi_eq, toN_eq] at he
        conv => cbv
        refine ⟨z1, ⟨⟨by omega, by show z1 ≤ (m : Int); omega, fun j hj => ?_⟩, by show ((m : Int) - z1).toNat < ((m : Int) - z).toNat; omega⟩, _, (HImp.refl _).ext, LeSt.mk' [0, 1, 2] (by decide) (by rfl) (by decide) ?_ ?_⟩
        · by_cases hjz : j < z.toNat
          · exact hz2 j hjz
          · have : j = z.toNat := by omega
            rw [this]; exact he
        · conv => cbv
          refine ⟨?_, trivial⟩
          show z1 = addI .i64 z 1
          rw [addI_eq, IntWalk.i64_in _ (by omega), hz1']
        · conv => cbv
          exact ⟨⟨fun j _ => rngF_le _ _, trivial⟩, ⟨fun j _ => rngF_le _ _, trivial⟩, trivial⟩
    · have hd : (m : Int) ≤ z := by have h : ofN m ≤ z := ltI_f.1 hd; rw [ofN_eq] at h; exact h
      have hbt : b = true := hb.2 ⟨hmk, by have : z.toNat = m := by omega
                                           rw [this] at hz2; exact hz2⟩
      conv => cbv
      refine (LeOut.mk' [0, 1, 2] (by decide) (by rfl) (by decide) ?_ ?_).two
      · conv => cbv
        exact hbt
      · conv => cbv
        exact ⟨⟨fun j _ => rngF_le _ _, trivial⟩, ⟨fun j _ => rngF_le _ _, trivial⟩, trivial⟩
theorem Pre.rows {w m m' : Nat} {f : Nat → List SV} {r : List SV} (h : m ≤ m') : Pre (.rows w (.ex m') f :: r) [.rows w (.ex m) f] := fun ρ cs hd => by
  obtain ⟨c1, c2, rfl, g1, g2⟩ := hd.of_cons
  obtain ⟨hm, hr⟩ := g1.of_rows
  simp only [S.val_ex] at hm hr
  have hmw : m * w ≤ m' * w := Nat.mul_le_mul_right w h
  refine ⟨c1.take (m * w), c1.drop (m * w) ++ c2, by rw [← List.append_assoc, List.take_append_drop], .cons (c1.take (m * w)) [] (by simp) (.rows (by simp; omega) fun j hj => ?_) (.nil rfl)⟩
  simp only [S.val_ex] at hj
  have hjw : j * w + w ≤ m * w := by
    have := Nat.mul_le_mul_right w (show j + 1 ≤ m from hj)
    rw [Nat.add_mul, Nat.one_mul] at this; exact this
  have : ((c1.take (m * w)).drop (j * w)).take w = (c1.drop (j * w)).take w := by
    rw [List.drop_take, List.take_take, Nat.min_eq_left (by omega)]
  rw [this]; exact hr j (by omega)
noncomputable def I12 : FnT := [(12, fi Try.f12 ⟨[], 0⟩)]
theorem I12ok : FnsOk kit I12 := ⟨fo12 _, trivial⟩
/-- All of a row is written over so. -/
structure OverTo (a : Nat) (A B C D : List Int) (n : Nat) : Prop where
  la : A.length = n
  lb : B.length = n
  lc : C.length = n
  ld : D.length = n
  lo : ∀ j, j < a → A.getD j 0 = 0 ∧ B.getD j 0 = 0 ∧ C.getD j 0 = -99 ∧ D.getD j 0 = 0
theorem extL_len (m : Nat) (x : Int) (V : List Int) : (extL m x V).length = m + 8 := by simp [extL]
theorem OverTo.set {a : Nat} {A B C D : List Int} {n : Nat} (h : OverTo a A B C D n) (ha : a < n) : OverTo (a + 1) (A.set a 0) (B.set a 0) (C.set a (-99)) (D.set a 0) n := by
  have key : ∀ (X : List Int) (x : Int) j, X.length = n → j < a + 1 → (j < a → X.getD j 0 = x) → (X.set a x).getD j 0 = x := fun X x j hl hj hx => by
    rw [List.getD_eq_getElem?_getD]
    by_cases e : a = j
    · subst e; rw [List.getElem?_set_self (by omega)]; rfl
    · rw [List.getElem?_set_ne e, ← List.getD_eq_getElem?_getD]; exact hx (by omega)
  exact ⟨by simp [h.la], by simp [h.lb], by simp [h.lc], by simp [h.ld], fun j hj => ⟨key A 0 j h.la hj fun h' => (h.lo j h').1, key B 0 j h.lb hj fun h' => (h.lo j h').2.1, key C (-99) j h.lc hj fun h' => (h.lo j h').2.2.1, key D 0 j h.ld hj fun h' => (h.lo j h').2.2.2⟩⟩
theorem upd_rng (A B C D : List Int) (n i a : Nat) (hi : i = a) (ha : a < n) (h : OverTo a A B C D n) (x y z t : Int) (τ : Nat → Nat) (j : Nat) (hj : j < n) : leL (upd (rngF A B C D) i [.i .u32 (.lit x), .i .u32 (.lit y), .i .i64 (.lit z), .i .u8 (.lit t)] j) (renL τ (rngF (A.set a x) (B.set a y) (C.set a z) (D.set a t) j)) := by
  subst hi
  rw [upd_eq]
  show leL (if j = i then _ else rngF A B C D j) _
  have h1 := h.la; have h2 := h.lb; have h3 := h.lc; have h4 := h.ld
  by_cases e : j = i
  · subst e
    rw [if_pos rfl]
    refine ⟨⟨rfl, ?_⟩, ⟨rfl, ?_⟩, ⟨rfl, ?_⟩, ⟨rfl, ?_⟩, trivial⟩ <;> (show gi _ _ = _; rw [gi_eq, List.getD_eq_getElem?_getD, List.getElem?_set_self (by omega)]; rfl)
  · rw [if_neg e]
    refine ⟨⟨rfl, ?_⟩, ⟨rfl, ?_⟩, ⟨rfl, ?_⟩, ⟨rfl, ?_⟩, trivial⟩ <;> (show gi _ _ = gi _ _; rw [gi_eq, gi_eq, List.getD_eq_getElem?_getD, List.getD_eq_getElem?_getD, List.getElem?_set_ne (Ne.symm e)])
theorem OverTo.all {A B C D : List Int} {n : Nat} (h : OverTo n A B C D n) (τ : Nat → Nat) (j : Nat) (hj : j < n) : leL (rngF A B C D j) (renL τ (rngF (List.replicate n 0) (List.replicate n 0) (List.replicate n (-99)) (List.replicate n 0) j)) := by
  obtain ⟨h1, h2, h3, h4⟩ := h.lo j hj
  refine ⟨⟨rfl, ?_⟩, ⟨rfl, ?_⟩, ⟨rfl, ?_⟩, ⟨rfl, ?_⟩, trivial⟩ <;> (show gi _ _ = gi _ _; rw [gi_eq, gi_eq, List.getD_eq_getElem?_getD (l := List.replicate _ _), List.getElem?_replicate, if_pos hj])
  · rw [h1]; rfl
  · rw [h2]; rfl
  · rw [h3]; rfl
  · rw [h4]; rfl
theorem kept_spec (V PH G P : List Int) (m c c2 cap : Nat) (hm : m < 1000000) {V1 PH1 G1 P1 : List Int} (hV : V1 = extL m 0 V) (hPH : PH1 = extL m 0 PH) (hG : G1 = extL m (-77) G) (hP : P1 = extL m 0 P) {m8 jc : Nat} (hm8 : m8 = m + 8) (hcap : m8 ≤ cap) {Z N : List Int} (hZ : Z = List.replicate m8 0) (hN : N = List.replicate m8 (-99)) :
    Spec1 kit 12 [.slc 0 0 4 (.lit 0) (.ex m8) (.ex cap), .slc 1 0 4 (.lit 0) (.ex m) (.ex c2)] [.cells 31 [.rows 4 (.ex m8) (rngF V1 PH1 G1 P1), .junk 4 (.ex jc)], .ro [.rows 4 (.ex m) (rngF V PH G P)]] false (.b (.lit true))
      [.cells 31 [.rows 4 (.ex m8) (rngF Z Z N Z), .junk 4 (.ex jc)], .ro [.rows 4 (.ex m) (rngF V PH G P)]] [] := by
  refine Spec1.mk2 rfl fun F => ?_
  have hsame : sameR V1 PH1 G1 P1 V PH G P m := fun j hj => ⟨by rw [hV, extL_lo hj], by rw [hPH, extL_lo hj], by rw [hG, extL_lo hj], by rw [hP, extL_lo hj]⟩
  refine into I12ok 6 ?_
  conv => cbv
  have hsub : subI .i64 (ofN m8) 8 = m := by rw [ofN_eq, subI_eq, IntWalk.i64_in _ (by omega)]; omega
  refine ⟨by show nLe m8 cap; rw [nLe_eq]; exact hcap, by show leR (subI .i64 (ofN m8) 8) cap; rw [leR_eq, hsub]; omega, ?_⟩
  refine OkCall.by_spec (Spec1.lend (sameRanges_spec V1 PH1 V PH G1 P1 G P m m cap c2 (by omega) (b := true) ⟨fun _ => ⟨rfl, hsame⟩, fun _ => rfl⟩) 0 31 [.rows 4 (.ex m8) (rngF V1 PH1 G1 P1), .junk 4 (.ex jc)] rfl rfl (Pre.rows (by omega))
    (fun j k hj hk => by
      match j, hj with
      | 1, _ => cases hk; exact .inr ⟨_, rfl, rfl⟩
      | (n + 2), _ => simp at hk) (fun k hk => by simp at hk)) [0, 1] (by decide) ?_ ?_ ?_
  · conv => cbv
    refine ⟨⟨?_, trivial⟩, trivial⟩
    show m = toN (subI .i64 (ofN m8) 8)
    rw [hsub, toN_eq]; omega
  · conv => cbv
    exact ⟨⟨fun j _ => rngF_le _ _, trivial⟩, ⟨fun j _ => rngF_le _ _, trivial⟩, trivial⟩
  conv => cbv
  refine byInv I12ok 6 ⟨[], 0⟩ (fun z : Int => ⟨[(6, .i .i64 (.ex z)), (5, .b (.ex true)), (0, .slc 0 0 4 (.lit 0) (.ex m8) (.ex cap)), (1, .slc 1 0 4 (.lit 0) (.ex m) (.ex c2))], [.cells 31 [.rows 4 (.ex m8) (rngF V1 PH1 G1 P1), .junk 4 (.ex jc)], .ro [.rows 4 (.ex m) (rngF V PH G P)], .abs F]⟩)
    (fun z => (9 - z).toNat) (fun z => 1 ≤ z ∧ z ≤ 9) false 1 (by kernel_rfl) ⟨by omega, by omega⟩ (LeSt.mk' [0, 1, 2] (by decide) (by rfl) (by decide) (by cbv) ?_) ?_
  · conv => cbv
    exact ⟨⟨fun j _ => rngF_le _ _, trivial⟩, ⟨fun j _ => rngF_le _ _, trivial⟩, trivial⟩
  rintro z ⟨hz0, hz1⟩
  obtain ⟨z1, hz1'⟩ : ∃ x, x = z + 1 := ⟨_, rfl⟩
  conv => cbv
  refine Br.mk (fun hc => ?_) (fun hc => ?_)
  · have hc : z ≤ 8 := leI_t.1 hc
    conv => cbv
    refine Br.yes rfl ?_
    have hix : subI .i64 (ofN m8) z = m8 - z := by rw [ofN_eq, subI_eq, IntWalk.i64_in _ (by omega)]
    obtain ⟨jj, hjj⟩ : ∃ x : Nat, x = ((m8 : Int) - z).toNat := ⟨_, rfl⟩
    have htn : toN (subI .i64 (ofN m8) z) = jj := by rw [hix, toN_eq, hjj]
    have hj1 : m ≤ jj := by omega
    have hj2 : jj < m + 8 := by omega
    conv => cbv
    refine ⟨by show inR (subI .i64 (ofN m8) z) m8; rw [hix]; exact inR.mk (by omega) (by omega), by show nLt (toN (subI .i64 (ofN m8) z)) m8; rw [htn, nLt_eq]; omega, z1, ⟨⟨by show 1 ≤ z1; omega, by show z1 ≤ 9; omega⟩, by show (9 - z1).toNat < (9 - z).toNat; omega⟩, _, (HImp.refl _).ext, LeSt.mk' [0, 1, 2] (by decide) (by rfl) (by decide) ?_ ?_⟩
    · conv => cbv
      refine ⟨?_, ?_, trivial⟩
      · show z1 = addI .i64 z 1
        rw [addI_eq, IntWalk.i64_in _ (by omega), hz1']
      · show true = andB (eqI (gi V1 (toN (subI .i64 (ofN m8) z))) 0) (andB (eqI (gi PH1 (toN (subI .i64 (ofN m8) z))) 0) (andB (eqI (gi G1 (toN (subI .i64 (ofN m8) z))) (-77)) (eqI (gi P1 (toN (subI .i64 (ofN m8) z))) 0)))
        rw [htn, gi_eq, gi_eq, gi_eq, gi_eq, hV, hPH, hG, hP, extL_hi hj1 hj2, extL_hi hj1 hj2, extL_hi hj1 hj2, extL_hi hj1 hj2, eqI_t.2 rfl, eqI_t.2 rfl, andB_eq, andB_eq, andB_eq]; rfl
    · conv => cbv
      exact ⟨⟨fun j _ => rngF_le _ _, trivial⟩, ⟨fun j _ => rngF_le _ _, trivial⟩, trivial⟩
  · have hc : 8 < z := leI_f.1 hc
    conv => cbv
    refine byInv I12ok 6 ⟨[], 0⟩ (fun a : Int × List Int × List Int × List Int × List Int => ⟨[(7, .i .i64 (.ex a.1)), (5, .b (.ex true)), (0, .slc 0 0 4 (.lit 0) (.ex m8) (.ex cap)), (1, .slc 1 0 4 (.lit 0) (.ex m) (.ex c2))], [.cells 31 [.rows 4 (.ex m8) (rngF a.2.1 a.2.2.1 a.2.2.2.1 a.2.2.2.2), .junk 4 (.ex jc)], .ro [.rows 4 (.ex m) (rngF V PH G P)], .abs F]⟩)
      (fun a => (m8 - a.1).toNat) (fun a => 0 ≤ a.1 ∧ a.1 ≤ m8 ∧ OverTo a.1.toNat a.2.1 a.2.2.1 a.2.2.2.1 a.2.2.2.2 m8) false (0, V1, PH1, G1, P1) (by kernel_rfl) ⟨by omega, by omega, by rw [hV, extL_len, hm8], by rw [hPH, extL_len, hm8], by rw [hG, extL_len, hm8], by rw [hP, extL_len, hm8], fun j hj => by simp at hj⟩ (LeSt.mk' [0, 1, 2] (by decide) (by rfl) (by decide) (by cbv) ?_) ?_
    · conv => cbv
      exact ⟨⟨fun j _ => rngF_le _ _, trivial⟩, ⟨fun j _ => rngF_le _ _, trivial⟩, trivial⟩
    rintro ⟨y, A, B, C, D⟩ ⟨hy0, hy1, hov⟩
    simp only at hy0 hy1 hov
    obtain ⟨y1, hy1'⟩ : ∃ x, x = y + 1 := ⟨_, rfl⟩
    obtain ⟨A1, hA1⟩ : ∃ x, x = A.set y.toNat 0 := ⟨_, rfl⟩
    obtain ⟨B1, hB1⟩ : ∃ x, x = B.set y.toNat 0 := ⟨_, rfl⟩
    obtain ⟨C1, hC1⟩ : ∃ x, x = C.set y.toNat (-99) := ⟨_, rfl⟩
    obtain ⟨D1, hD1⟩ : ∃ x, x = D.set y.toNat 0 := ⟨_, rfl⟩
    conv => cbv
    refine Br.mk (fun hd => ?_) (fun hd => ?_)
    · have hd : y < (m8 : Int) := by have h : y < ofN m8 := ltI_t.1 hd; rw [ofN_eq] at h; exact h
      have hov1 : OverTo y1.toNat A1 B1 C1 D1 m8 := by
        rw [hA1, hB1, hC1, hD1, show y1.toNat = y.toNat + 1 by omega]; exact hov.set (by omega)
      conv => cbv
      refine ⟨inR.mk (by omega) hd, nLt.mk (by simp only [leafs]; omega), (y1, A1, B1, C1, D1), ⟨⟨by show 0 ≤ y1; omega, by show y1 ≤ (m8 : Int); omega, hov1⟩, by show ((m8 : Int) - y1).toNat < ((m8 : Int) - y).toNat; omega⟩, _, (HImp.refl _).ext, LeSt.mk' [0, 1, 2] (by decide) (by rfl) (by decide) ?_ ?_⟩
      · conv => cbv
        refine ⟨?_, trivial⟩
        show y1 = addI .i64 y 1
        rw [addI_eq, IntWalk.i64_in _ (by omega), hy1']
      · conv => cbv
        refine ⟨⟨fun j hj => ?_, trivial⟩, ⟨fun j _ => rngF_le _ _, trivial⟩, trivial⟩
        show leL (upd (rngF A B C D) (toN y) [.i .u32 (.lit 0), .i .u32 (.lit 0), .i .i64 (.lit (-99)), .i .u8 (.lit 0)] j) (renL _ (rngF A1 B1 C1 D1 j))
        rw [hA1, hB1, hC1, hD1]
        exact upd_rng A B C D m8 (toN y) y.toNat (toN_eq y) (by omega) hov _ _ _ _ _ j hj
    · have hd : (m8 : Int) ≤ y := by have h : ofN m8 ≤ y := ltI_f.1 hd; rw [ofN_eq] at h; exact h
      rw [show y.toNat = m8 by omega] at hov
      conv => cbv
      refine (LeOut.mk' [0, 1, 2] (by decide) (by rfl) (by decide) (by cbv) ?_).two
      conv => cbv
      exact ⟨⟨fun j hj => by rw [hZ, hN]; exact hov.all _ j hj, trivial⟩, ⟨fun j _ => rngF_le _ _, trivial⟩, trivial⟩
end Go.Proofs.Ytnefllaeleihcaa
end

/-
  From a walk of a law to its row's contract.
-/
section
namespace Go.Vex
open Go.RowKit Go.ChangeShapes
noncomputable section
theorem calls_of_ok2 {C : Kit} {f : Nat} {svs : List SV} {hp : List Blk} {ρ : Rho} {W : World} {vals : List Value}
    (h : ∀ A, OkCall C f svs (hp ++ [.abs A]) fun q v hp' => leV v (.b (.lit true)) ∧ ∃ x : Nat, hp'[x]? = some (.abs A))
    (hd : DenT ρ svs vals) (hs : InitSat ρ hp W) : Calls C.P f vals.toArray W fun e w' => e = .returned (.bool true) ∧ Below W.heap.size W w' := by
  have hs' : InitSat (ρ ++ [none]) (hp ++ [.abs (allA W)]) W := hs.push (see := List.range W.heap.size) (fun w' hw => ⟨rfl, hw⟩) (by simp)
  obtain ⟨ω, hω, _⟩ := hs'
  refine ((h (allA W)).out (ρ ++ [none]) W vals (hd.mono (Ext.push _ _)) ⟨ω, hω⟩).mono ?_
  rintro e w' ⟨q, ρ', v, c, hp', rfl, k1, k2, ⟨ω', k3⟩, k4, k5, hv, x, hx⟩
  cases leV.den k2 hv with
  | b hb =>
    subst hb
    refine ⟨rfl, k4.os, k4.tape, k4.output, k4.size, ?_⟩
    obtain ⟨a, o, _, _, hA⟩ := HSat.getO k3 hx
    have := hA w' (agree.refl _ _)
    intro k hk
    exact this.2 k (.inr (by simpa using hk))
theorem BImp.roPre {l l0 : List SV} (h : Pre l l0) : BImp (.ro l) (.ro l0) := by
  refine ⟨fun ρ a o w ⟨cs, hd, hc⟩ => ?_⟩
  obtain ⟨c1, c2, rfl, h1⟩ := h ρ cs hd
  refine ⟨c1, h1, ?_⟩
  rcases hc with ⟨e, ho⟩ | ⟨b, o0, e, ho, hc⟩
  · exact .inl ⟨(List.append_eq_nil_iff.1 e).1, ho⟩
  · refine .inr ⟨b, o0, e, ho, ?_⟩
    rcases hc with e2 | ⟨arr, T, fz, h2, h3⟩
    · exact .inl (List.append_eq_nil_iff.1 e2).1
    · exact .inr ⟨arr, T, fz, h2, fun j c hj => h3 j c (by rw [List.getElem?_append_left (List.getElem?_eq_some_iff.1 hj).1]; exact hj)⟩
theorem inK_u32 {n : Int} (h : InK .u32 n) : 0 ≤ n ∧ n < 4294967296 := by
  simp [InK, Lit.wf, IntKind.min, IntKind.max, IntKind.bits, IntKind.signed] at h
  exact ⟨h.1, by omega⟩
theorem inK_u8 {n : Int} (h : InK .u8 n) : 0 ≤ n ∧ n < 256 := by
  simp [InK, Lit.wf, IntKind.min, IntKind.max, IntKind.bits, IntKind.signed] at h
  exact ⟨h.1, by omega⟩
theorem inK_i64 {n : Int} (h : InK .i64 n) : -9223372036854775808 ≤ n ∧ n < 9223372036854775808 := by
  simp [InK, Lit.wf, IntKind.min, IntKind.max, IntKind.bits, IntKind.signed] at h
  exact ⟨h.1, by omega⟩
theorem col_in {P : Int → Prop} (h0 : P 0) {zs : List Int} (h : ∀ z ∈ zs, P z) (j : Nat) : P (zs.getD j 0) := by
  rw [List.getD_eq_getElem?_getD]
  cases e : zs[j]? with
  | none => exact h0
  | some z => exact h z (List.mem_of_getElem? e)
end
end Go.Vex
namespace Go.Proofs.Ytnefllaeleihcaa
open Go Go.Vex
def lawK2 (f : Nat) (svs : List SV) (hp : List Blk) : Prop :=
  ∀ A, OkCall kit f svs (hp ++ [.abs A]) fun q v hp' => leV v (.b (.lit true)) ∧ ∃ x : Nat, hp'[x]? = some (.abs A)
end Go.Proofs.Ytnefllaeleihcaa
end

/-
  TablesNeeds: the walk.
-/
section
namespace Go.Proofs.Ytnefllaeleihcaa
open Go Go.Vex
set_option maxRecDepth 20000
set_option maxHeartbeats 4000000
noncomputable def I3 : FnT := [(3, fi Try.f3 ⟨[1000004], 0⟩)]
theorem I3ok : FnsOk kit I3 := ⟨fo3 _, trivial⟩
noncomputable def c3 : Code := (codeAt 4 (Try.f3.body.getD .skip)).getD .skip
/-- Columns of ranges. -/
structure ColsOk (A B C D : List Int) (n : Nat) : Prop where
  la : A.length = n
  lb : B.length = n
  lc : C.length = n
  ld : D.length = n
  a : ∀ z ∈ A, 0 ≤ z ∧ z < 4294967296
  b : ∀ z ∈ B, 0 ≤ z ∧ z < 4294967296
  c : ∀ z ∈ C, -9223372036854775808 ≤ z ∧ z < 9223372036854775808
  d : ∀ z ∈ D, 0 ≤ z ∧ z < 256
theorem ColsOk.ok {A B C D : List Int} {n m : Nat} (h : ColsOk A B C D n) (hm : m < 4611686018427387904) : RgsOk ⟨A, B, C, D⟩ m :=
  ⟨col_in (by decide) h.a, col_in (by decide) h.b, col_in (by decide) h.c, col_in (by decide) h.d, hm⟩
theorem ColsOk.zero {Z N : List Int} {n : Nat} (hZ : Z = List.replicate n 0) (hN : N = List.replicate n (-99)) : ColsOk Z Z N Z n := by
  subst hZ hN
  refine ⟨by simp, by simp, by simp, by simp, ?_, ?_, ?_, ?_⟩ <;> (intro z hz; rw [List.eq_of_mem_replicate hz]; decide)
theorem mem_set {l : List Int} {i : Nat} {x z : Int} (h : z ∈ l.set i x) : z ∈ l ∨ z = x := List.mem_or_eq_of_mem_set h
theorem ColsOk.set {A B C D : List Int} {n : Nat} (h : ColsOk A B C D n) (i : Nat) {x y z t : Int} (hx : 0 ≤ x ∧ x < 4294967296) (hy : 0 ≤ y ∧ y < 4294967296) (hz : -9223372036854775808 ≤ z ∧ z < 9223372036854775808) (ht : 0 ≤ t ∧ t < 256) : ColsOk (A.set i x) (B.set i y) (C.set i z) (D.set i t) n := by
  refine ⟨by simp [h.la], by simp [h.lb], by simp [h.lc], by simp [h.ld], fun u hu => ?_, fun u hu => ?_, fun u hu => ?_, fun u hu => ?_⟩
  · rcases mem_set hu with hu | rfl; exact h.a u hu; exact hx
  · rcases mem_set hu with hu | rfl; exact h.b u hu; exact hy
  · rcases mem_set hu with hu | rfl; exact h.c u hu; exact hz
  · rcases mem_set hu with hu | rfl; exact h.d u hu; exact ht
theorem upd_rng2 {A B C D : List Int} {n : Nat} (h : ColsOk A B C D n) (i a : Nat) (hi : i = a) (ha : a < n) (x y z t : Int) (τ : Nat → Nat) (j : Nat) (hj : j < n) : leL (upd (rngF A B C D) i [.i .u32 (.ex x), .i .u32 (.lit y), .i .i64 (.lit z), .i .u8 (.lit t)] j) (renL τ (rngF (A.set a x) (B.set a y) (C.set a z) (D.set a t) j)) := by
  subst hi
  rw [upd_eq]
  show leL (if j = i then _ else rngF A B C D j) _
  have h1 := h.la; have h2 := h.lb; have h3 := h.lc; have h4 := h.ld
  by_cases e : j = i
  · subst e
    rw [if_pos rfl]
    refine ⟨⟨rfl, ?_⟩, ⟨rfl, ?_⟩, ⟨rfl, ?_⟩, ⟨rfl, ?_⟩, trivial⟩ <;> (show gi _ _ = _; rw [gi_eq, List.getD_eq_getElem?_getD, List.getElem?_set_self (by omega)]; rfl)
  · rw [if_neg e]
    refine ⟨⟨rfl, ?_⟩, ⟨rfl, ?_⟩, ⟨rfl, ?_⟩, ⟨rfl, ?_⟩, trivial⟩ <;> (show gi _ _ = gi _ _; rw [gi_eq, gi_eq, List.getD_eq_getElem?_getD, List.getD_eq_getElem?_getD, List.getElem?_set_ne (Ne.symm e)])
theorem extL_in {Q : Int → Prop} (h0 : Q 0) {m : Nat} {x : Int} (hx : Q x) {V : List Int} (h : ∀ j, Q (V.getD j 0)) : ∀ z ∈ extL m x V, Q z := by
  intro z hz
  rcases List.mem_append.1 hz with hz | hz
  · obtain ⟨j, _, rfl⟩ := List.mem_map.1 hz; exact h j
  · rw [List.eq_of_mem_replicate hz]; exact hx
theorem need_ext (L L' : Rgs) (m : Nat) (h : ∀ j, j < m → L.V.getD j 0 = L'.V.getD j 0 ∧ L.PH.getD j 0 = L'.PH.getD j 0 ∧ L.G.getD j 0 = L'.G.getD j 0 ∧ L.P.getD j 0 = L'.P.getD j 0) : needP L m = needP L' m := by
  have h1 : (List.range m).any (badR L) = (List.range m).any (badR L') := by
    rw [Bool.eq_iff_iff, List.any_eq_true, List.any_eq_true]
    constructor <;> (rintro ⟨j, hj, hb⟩; refine ⟨j, hj, ?_⟩; obtain ⟨e1, e2, e3, e4⟩ := h j (List.mem_range.1 hj); simp only [badR, e1, e2, e3, e4] at hb ⊢; exact hb)
  have h2 : keysOf L m = keysOf L' m := by
    have : allFsts L m = allFsts L' m := by
      unfold allFsts
      rw [List.flatMap_def, List.flatMap_def]
      congr 1
      refine List.map_congr_left fun j hj => ?_
      obtain ⟨e1, e2, e3, e4⟩ := h j (List.mem_range.1 hj)
      simp only [fstsOf, e1, e3]
    rw [keysOf, keysOf, this]
  rw [needP, needP, h1, h2]
theorem ns1 {l l' : List SV} : noSees 0 [.ro l] [.ro l'] := fun j k hj hk => by
  match j, hj with
  | (n + 1), _ => simp at hk
theorem nsn : noSeesN [] := fun k hk => by simp at hk
theorem needs_tail (V PH G P : List Int) (m c : Nat) (hL : RgsOk ⟨V, PH, G, P⟩ m) (hm : m ≤ 20) (A : Option (Nat × Nat) → Vex.Own → World → Prop) :
    Ok kit 78 2 c3 false ⟨[(0, .slc 0 0 4 (.lit 0) (.ex m) (.ex c)), (3, .b (.lit true))], [.ro [.rows 4 (.ex m) (rngF V PH G P)], .abs A]⟩
      (endS tab (fi Try.f3 ⟨[], 0⟩).res fun q v hp' => leV v (.b (.lit true)) ∧ ∃ x : Nat, hp'[x]? = some (.abs A)) := by
  obtain ⟨V1, hV1⟩ : ∃ x, x = extL m 0 V := ⟨_, rfl⟩
  obtain ⟨PH1, hPH1⟩ : ∃ x, x = extL m 0 PH := ⟨_, rfl⟩
  obtain ⟨G1, hG1⟩ : ∃ x, x = extL m (-77) G := ⟨_, rfl⟩
  obtain ⟨P1, hP1⟩ : ∃ x, x = extL m 0 P := ⟨_, rfl⟩
  obtain ⟨m8, hm8⟩ : ∃ x, x = m + 8 := ⟨_, rfl⟩
  obtain ⟨r, hr⟩ : ∃ x, x = needP ⟨V, PH, G, P⟩ m := ⟨_, rfl⟩
  obtain ⟨Z, hZ⟩ : ∃ x : List Int, x = List.replicate m8 0 := ⟨_, rfl⟩
  obtain ⟨N, hN⟩ : ∃ x : List Int, x = List.replicate m8 (-99) := ⟨_, rfl⟩
  have hL1 : RgsOk ⟨V1, PH1, G1, P1⟩ m := ⟨by rw [hV1]; exact col_in (P := fun z => 0 ≤ z ∧ z < 4294967296) ⟨by decide, by decide⟩ (extL_in (Q := fun z => 0 ≤ z ∧ z < 4294967296) ⟨by decide, by decide⟩ ⟨by decide, by decide⟩ hL.v), by rw [hPH1]; exact col_in (P := fun z => 0 ≤ z ∧ z < 4294967296) ⟨by decide, by decide⟩ (extL_in (Q := fun z => 0 ≤ z ∧ z < 4294967296) ⟨by decide, by decide⟩ ⟨by decide, by decide⟩ hL.ph),
    by rw [hG1]; exact col_in (P := fun z => -9223372036854775808 ≤ z ∧ z < 9223372036854775808) ⟨by decide, by decide⟩ (extL_in (Q := fun z => -9223372036854775808 ≤ z ∧ z < 9223372036854775808) ⟨by decide, by decide⟩ ⟨by decide, by decide⟩ hL.g), by rw [hP1]; exact col_in (P := fun z => 0 ≤ z ∧ z < 256) ⟨by decide, by decide⟩ (extL_in (Q := fun z => 0 ≤ z ∧ z < 256) ⟨by decide, by decide⟩ ⟨by decide, by decide⟩ hL.p), hL.m⟩
  have hr1 : r = needP ⟨V1, PH1, G1, P1⟩ m := by
    rw [hr]
    refine need_ext _ _ m fun j hj => ?_
    simp only
    rw [hV1, hPH1, hG1, hP1, extL_lo hj, extL_lo hj, extL_lo hj, extL_lo hj]
    exact ⟨rfl, rfl, rfl, rfl⟩
  refine kcode I3ok 6 ⟨[], 0⟩ (by kernel_rfl) ?_
  conv => cbv
  refine OkCall.by_specM (lent_spec V PH G P m c (by omega) hV1 hPH1 hG1 hP1 hm8) [0] (by decide) (by cbv) ?_ ?_
  · conv => cbv
    exact ⟨⟨fun j _ => rngF_le _ _, trivial⟩, trivial⟩
  rintro q v hp1 new ⟨rfl, rfl, cap, jc, hcap, hjc, rfl, rfl⟩
  conv => cbv
  have htm : toN (ofN m) = m := by rw [ofN_eq, toN_eq]; omega
  refine ⟨by show nLe m8 cap; rw [nLe_eq]; exact hcap, by show leR (ofN m) cap; rw [leR_eq, ofN_eq]; omega, ?_⟩
  refine OkCall.by_spec (Spec1.lend (need_spec V1 PH1 G1 P1 m cap hL1 hr1) 0 31 [.rows 4 (.ex m8) (rngF V1 PH1 G1 P1), .junk 4 (.ex jc)] rfl rfl (Pre.rows (by omega)) ns1 nsn) [3] (by decide) ?_ ?_ ?_
  · conv => cbv
    refine ⟨⟨?_, trivial⟩, trivial⟩
    show m = toN (ofN m)
    exact htm.symm
  · conv => cbv
    exact ⟨⟨fun j _ => rngF_le _ _, trivial⟩, trivial⟩
  conv => cbv
  refine OkCall.by_spec (kept_spec (jc := jc) V PH G P m c c cap (by omega) hV1 hPH1 hG1 hP1 hm8 hcap hZ hN) [3, 0] (by decide) (by cbv) ?_ ?_
  · conv => cbv
    exact ⟨⟨fun j _ => rngF_le _ _, trivial⟩, ⟨fun j _ => rngF_le _ _, trivial⟩, trivial⟩
  conv => cbv
  refine byInv I3ok 6 ⟨[], 0⟩ (fun a : Int × List Int × List Int × List Int × List Int => ⟨[(7, .i .i64 (.ex a.1)), (6, .b (.lit true)), (5, .i .i64 (.ex r)), (4, .slc 2 0 4 (.lit 0) (.ex m8) (.ex cap)), (0, .slc 0 0 4 (.lit 0) (.ex m) (.ex c)), (3, .b (.lit true))], [.ro [.rows 4 (.ex m) (rngF V PH G P)], .abs A, .cells 31 [.rows 4 (.ex m8) (rngF a.2.1 a.2.2.1 a.2.2.2.1 a.2.2.2.2), .junk 4 (.ex jc)]]⟩)
    (fun a => (m - a.1).toNat) (fun a => 0 ≤ a.1 ∧ a.1 ≤ m ∧ ColsOk a.2.1 a.2.2.1 a.2.2.2.1 a.2.2.2.2 m8) false (0, Z, Z, N, Z) (by kernel_rfl) ⟨by omega, by omega, ColsOk.zero hZ hN⟩ (LeSt.mk' [0, 1, 3] (by decide) (by rfl) (by decide) (by cbv) ?_) ?_
  · conv => cbv
    exact ⟨⟨fun j _ => rngF_le _ _, trivial⟩, ⟨fun j _ => rngF_le _ _, trivial⟩, trivial⟩
  rintro ⟨y, A2, B2, C2, D2⟩ ⟨hy0, hy1, hco⟩
  simp only at hy0 hy1 hco
  obtain ⟨y1, hy1'⟩ : ∃ x, x = y + 1 := ⟨_, rfl⟩
  obtain ⟨w, hw⟩ : ∃ x, x = shlI .u32 (convI .u32 y) 22 := ⟨_, rfl⟩
  have hwu : 0 ≤ w ∧ w < 4294967296 := by rw [hw, shlI_eq, wrap_u32]; omega
  obtain ⟨A3, hA3⟩ : ∃ x, x = A2.set y.toNat w := ⟨_, rfl⟩
  obtain ⟨B3, hB3⟩ : ∃ x, x = B2.set y.toNat 0 := ⟨_, rfl⟩
  obtain ⟨C3, hC3⟩ : ∃ x, x = C2.set y.toNat 1 := ⟨_, rfl⟩
  obtain ⟨D3, hD3⟩ : ∃ x, x = D2.set y.toNat 1 := ⟨_, rfl⟩
  obtain ⟨r2, hr2⟩ : ∃ x, x = needP ⟨A2, B2, C2, D2⟩ m := ⟨_, rfl⟩
  conv => cbv
  refine Br.mk (fun hd => ?_) (fun hd => ?_)
  · have hd : y < (m : Int) := by have h : y < ofN m := ltI_t.1 hd; rw [ofN_eq] at h; exact h
    have hco1 : ColsOk A3 B3 C3 D3 m8 := by rw [hA3, hB3, hC3, hD3]; exact hco.set _ hwu (by decide) (by decide) (by decide)
    conv => cbv
    refine ⟨inR.mk (by omega) (by omega), nLt.mk (by simp only [leafs]; omega), (y1, A3, B3, C3, D3), ⟨⟨by show 0 ≤ y1; omega, by show y1 ≤ (m : Int); omega, hco1⟩, by show ((m : Int) - y1).toNat < ((m : Int) - y).toNat; omega⟩, _, (HImp.refl _).ext, LeSt.mk' [0, 1, 2] (by decide) (by rfl) (by decide) ?_ ?_⟩
    · conv => cbv
      refine ⟨?_, trivial⟩
      show y1 = addI .i64 y 1
      rw [addI_eq, IntWalk.i64_in _ (by omega), hy1']
    · conv => cbv
      refine ⟨⟨fun j _ => rngF_le _ _, trivial⟩, ⟨fun j hj => ?_, trivial⟩, trivial⟩
      show leL (upd (rngF A2 B2 C2 D2) (toN y) [.i .u32 (.ex (shlI .u32 (convI .u32 y) 22)), .i .u32 (.lit 0), .i .i64 (.lit 1), .i .u8 (.lit 1)] j) (renL _ (rngF A3 B3 C3 D3 j))
      rw [hA3, hB3, hC3, hD3, ← hw]
      exact upd_rng2 hco (toN y) y.toNat (toN_eq y) (by omega) w 0 1 1 _ j hj
  · have hd : (m : Int) ≤ y := by have h : ofN m ≤ y := ltI_f.1 hd; rw [ofN_eq] at h; exact h
    have hL2 := hco.ok (m := m) (by omega)
    conv => cbv
    refine ⟨by show nLe m8 cap; rw [nLe_eq]; exact hcap, by show leR (ofN m) cap; rw [leR_eq, ofN_eq]; omega, ?_⟩
    refine OkCall.by_spec (Spec1.lend (need_spec A2 B2 C2 D2 m cap hL2 hr2) 0 31 [.rows 4 (.ex m8) (rngF A2 B2 C2 D2), .junk 4 (.ex jc)] rfl rfl (Pre.rows (by omega)) ns1 nsn) [2] (by decide) ?_ ?_ ?_
    · conv => cbv
      refine ⟨⟨?_, trivial⟩, trivial⟩
      show m = toN (ofN m)
      exact htm.symm
    · conv => cbv
      exact ⟨⟨fun j _ => rngF_le _ _, trivial⟩, trivial⟩
    conv => cbv
    refine ⟨by show nLe m8 cap; rw [nLe_eq]; exact hcap, by show leR (ofN m) cap; rw [leR_eq, ofN_eq]; omega, ?_⟩
    refine OkCall.by_spec (Spec1.lend (rneed_spec A2 B2 C2 D2 m cap hL2 hr2) 0 31 [.rows 4 (.ex m8) (rngF A2 B2 C2 D2), .junk 4 (.ex jc)] rfl rfl (Pre.rows (by omega)) ns1 nsn) [2] (by decide) ?_ ?_ ?_
    · conv => cbv
      refine ⟨⟨?_, trivial⟩, trivial⟩
      show m = toN (ofN m)
      exact htm.symm
    · conv => cbv
      exact ⟨⟨fun j _ => rngF_le _ _, trivial⟩, trivial⟩
    conv => cbv
    refine OkCall.by_spec tnew_nil [] (by decide) (by cbv) trivial ?_
    conv => cbv
    refine Br.yes (show eqI r2 r2 = true from eqI_t.2 rfl) ?_
    conv => cbv
    refine OkCall.by_spec (rneed_spec V PH G P m c hL hr) [0] (by decide) (by cbv) ?_ ?_
    · conv => cbv
      exact ⟨⟨fun j _ => rngF_le _ _, trivial⟩, trivial⟩
    conv => cbv
    refine Br.yes (show eqI r r = true from eqI_t.2 rfl) ?_
    conv => cbv
    exact ⟨1, rfl⟩
theorem needs_walk : opnArgs tab 9 [22] 0 (lawK2 3) := by
  conv => cbv
  intro m c hmc hc hbytes
  conv => cbv
  intro V hVl hV
  conv => cbv
  intro PH hPHl hPH
  conv => cbv
  intro G hGl hG
  conv => cbv
  intro P hPl hP
  conv => cbv
  intro A
  have hL : RgsOk ⟨V, PH, G, P⟩ m := ⟨col_in (P := fun z => 0 ≤ z ∧ z < 4294967296) ⟨by decide, by decide⟩ (fun z hz => inK_u32 (hV z hz)), col_in (P := fun z => 0 ≤ z ∧ z < 4294967296) ⟨by decide, by decide⟩ (fun z hz => inK_u32 (hPH z hz)),
    col_in (P := fun z => -9223372036854775808 ≤ z ∧ z < 9223372036854775808) ⟨by decide, by decide⟩ (fun z hz => inK_i64 (hG z hz)), col_in (P := fun z => 0 ≤ z ∧ z < 256) ⟨by decide, by decide⟩ (fun z hz => inK_u8 (hP z hz)), by have hb : m * 24 ≤ reachBytes := hbytes; unfold reachBytes at hb; omega⟩
  refine into I3ok 6 ?_
  conv => cbv
  refine OkCall.by_spec known_spec [] (by decide) (by cbv) trivial ?_
  conv => cbv
  refine Br.mk (fun hd => ?_) (fun hd => ?_)
  · have hd : 20 < ofN m := ltI_t.1 hd
    rw [ofN_eq] at hd
    conv => cbv
    refine ⟨by show nLe m c; rw [nLe_eq]; exact hmc, by show leR 20 c; rw [leR_eq]; omega, ?_⟩
    refine Ok.imp (HImp.at 0 rfl (BImp.roPre (Pre.rows (m := 20) (by omega)))) ?_
    have hL20 : RgsOk ⟨V, PH, G, P⟩ 20 := ⟨hL.v, hL.ph, hL.g, hL.p, by decide⟩
    refine Ok.weak (LeSt.mk' [0, 1] (by decide) (by rfl) (by decide) ?_ ?_) (needs_tail V PH G P 20 c hL20 (Nat.le_refl _) A)
    · conv => cbv
      trivial
    · conv => cbv
      exact ⟨⟨fun j _ => rngF_le _ _, trivial⟩, trivial⟩
  · have hd : ofN m ≤ 20 := ltI_f.1 hd
    rw [ofN_eq] at hd
    conv => cbv
    refine Ok.weak (LeSt.mk' [0, 1] (by decide) (by rfl) (by decide) (by cbv) ?_) (needs_tail V PH G P m c hL (by omega) A)
    conv => cbv
    exact ⟨⟨fun j _ => rngF_le _ _, trivial⟩, trivial⟩
end Go.Proofs.Ytnefllaeleihcaa
end
