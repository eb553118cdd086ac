/-
  The board of chapter 12's document: its state, its shape in memory.
-/
import Derived.Test.YtkljgpepogkgdaaDoorCK
import Derived.Test.YtkljgpepogkgdaaDoorVL
import Derived.IntWalk
import Derived.Test.YtkljgpepogkgdaaDoorV22
set_option linter.unusedVariables false
set_option linter.unusedSimpArgs false
namespace Go.Proofs.YtkljgpepogkgdaaDoor
open Go Go.Vex
set_option maxRecDepth 20000
structure BoardS where
  words : List Int
  values : List Int
  cycles : List Int
  faults : List Int
  time : Int
  line : Int
  odd : Bool
  lk : List Int
  la : List Int
  ls : List Int
  lv : List Int
  nw : Int
  nv : Int
  nc : Int
  nf : Int
noncomputable def logF (lk la ls lv : List Int) (j : Nat) : List SV := [.i .u8 (.ex (gi lk j)), .i .u32 (.ex (gi la j)), .i .i64 (.ex (gi ls j)), .i .u32 (.ex (gi lv j))]
def intsB (k : IntKind) (n : Nat) (zs : List Int) : Blk := .ro [.ints k (.ex n) zs]
noncomputable def boardL (s : BoardS) (mw mv mc mf ml cw cv cc cf cl : Nat) : List Blk :=
  [.cells 36 [.slc 1 0 1 (.lit 0) (.ex mw) (.ex cw), .slc 2 0 1 (.lit 0) (.ex mv) (.ex cv), .slc 3 0 1 (.lit 0) (.ex mc) (.ex cc), .slc 4 0 1 (.lit 0) (.ex mf) (.ex cf),
    .i .u64 (.ex s.time), .i .i64 (.ex s.line), .b (.ex s.odd), .slc 5 0 4 (.lit 0) (.ex ml) (.ex cl), .i .i64 (.ex s.nw), .i .i64 (.ex s.nv), .i .i64 (.ex s.nc), .i .i64 (.ex s.nf)],
   intsB .u32 mw s.words, intsB .u32 mv s.values, intsB .i64 mc s.cycles, intsB .i64 mf s.faults,
   .cells 48 [.rows 4 (.ex ml) (logF s.lk s.la s.ls s.lv), .junk 4 (.ex (subN cl ml))]]
structure BoardOk (s : BoardS) (mw mv mc mf ml cl : Nat) : Prop where
  w : s.words.length = mw
  v : s.values.length = mv
  c : s.cycles.length = mc
  f : s.faults.length = mf
  k : s.lk.length = ml
  a : s.la.length = ml
  z : s.ls.length = ml
  l : s.lv.length = ml
  cap : ml ≤ cl
def boardSh (s : BoardS) (l : List Blk) : Prop := ∃ mw mv mc mf ml cw cv cc cf cl, BoardOk s mw mv mc mf ml cl ∧ l = boardL s mw mv mc mf ml cw cv cc cf cl
abbrev boardB (s : BoardS) : Blk := .pk (boardSh s)
end Go.Proofs.YtkljgpepogkgdaaDoor
namespace Go.Proofs.YtkljgpepogkgdaaDoor
open Go Go.Vex
set_option maxRecDepth 20000
set_option maxHeartbeats 4000000
noncomputable def I87 : FnT := [(87, fi Tryd.f87 ⟨[], 0⟩)]
theorem I87ok : FnsOk kit I87 := ⟨fo87 _, trivial⟩
def nextV (n m : Int) : Int := if m ≤ n then m - 1 else n
theorem next_q {n m : Int} {hp : List Blk} {K : SV → Prop} (_ : 0 ≤ n) (h1 : 0 < m) (h2 : m ≤ 4611686018427387904) (hK : K (.i .i64 (.ex (nextV n m)))) : QCall kit 87 [.i .i64 (.ex n), .i .i64 (.ex m)] hp K := by
  generalize hr : nextV n m = r at hK
  refine QCall.of_call _ rfl (into I87ok 2 ?_) hK
  conv => cbv
  refine Br.mk (fun hc => ?_) (fun hc => ?_)
  · conv => cbv
    simp only [leafs, decide_eq_true_eq] at hc ⊢
    rw [← hr, nextV, if_pos hc, IntWalk.i64_in _ (by omega)]
  · conv => cbv
    simp only [leafs, decide_eq_false_iff_not] at hc ⊢
    rw [← hr, nextV, if_neg hc]
noncomputable def I86 : FnT := [(86, fi Tryd.f86 ⟨[], 0⟩), (87, fi Tryd.f87 ⟨[], 0⟩)]
theorem I86ok : FnsOk kit I86 := ⟨fo86 _, fo87 _, trivial⟩
def pick1 (l : List Int) (n : Int) : Int := l.getD (nextV n l.length).toNat 0
def costS (s : BoardS) : BoardS := { s with nc := s.nc + 1, nf := s.nf + 1 }
structure BBnd (s : BoardS) : Prop where
  w : s.words.length < 4611686018427387904
  v : s.values.length < 4611686018427387904
  c : s.cycles.length < 4611686018427387904
  f : s.faults.length < 4611686018427387904
  nw : 0 ≤ s.nw ∧ s.nw < 1000000
  nv : 0 ≤ s.nv ∧ s.nv < 1000000
  nc : 0 ≤ s.nc ∧ s.nc < 1000000
  nf : 0 ≤ s.nf ∧ s.nf < 1000000
theorem nextV_in {n m : Int} (h0 : 0 ≤ n) (h1 : 0 < m) : 0 ≤ nextV n m ∧ nextV n m < m := by unfold nextV; split <;> omega
theorem logF_le (τ τ' : Nat → Nat) (lk la ls lv : List Int) (j : Nat) : leL (renL τ (logF lk la ls lv j)) (renL τ' (logF lk la ls lv j)) := by
  conv => cbv
  trivial
theorem getD_gi (l : List Int) (i : Int) : gi l (toN i) = l.getD i.toNat 0 := by rw [gi_eq, toN_eq]
theorem pick1_nil {l : List Int} (h : l.length = 0) (n : Int) : pick1 l n = 0 := by
  unfold pick1; rw [List.eq_nil_of_length_eq_zero h]; simp
theorem cost_spec (s : BoardS) (hs : BBnd s) {mw mv mc mf ml cw cv cc cf cl : Nat} (hb : BoardOk s mw mv mc mf ml cl) :
    Spec1 kit 86 [.p 0 (.at 0)] (boardL s mw mv mc mf ml cw cv cc cf cl) false (.tup [.i .i64 (.ex (pick1 s.cycles s.nc)), .i .i64 (.ex (pick1 s.faults s.nf))]) (boardL (costS s) mw mv mc mf ml cw cv cc cf cl) [] := by
  generalize hr1 : pick1 s.cycles s.nc = r1
  generalize hr2 : pick1 s.faults s.nf = r2
  generalize hs' : costS s = s'
  refine Spec1.mk2 rfl fun F => ?_
  obtain ⟨words, values, cycles, faults, time, line, odd, lk, la, ls, lv, nw, nv, nc, nf⟩ := s
  obtain ⟨hb1, hb2, hb3, hb4, hb5, hb6, hb7, hb8, hb9⟩ := hb
  obtain ⟨hs1, hs2, hs3, hs4, hs6, hs7, hs8, hs9⟩ := hs
  simp only at *
  refine into I86ok 6 ?_
  conv => cbv
  refine Br.mk (fun hc => ?_) (fun hc => ?_)
  · simp only [leafs, decide_eq_true_eq] at hc
    conv => cbv
    refine next_q (by omega) (by simp only [leafs]; omega) (by simp only [leafs]; omega) ?_
    generalize hi1 : nextV _ _ = i1
    conv => cbv
    have hr := nextV_in hs8.1 hc
    simp only [leafs] at hi1
    rw [hi1] at hr
    refine ⟨inR.mk hr.1 hr.2, nLt.mk (by simp only [leafs]; omega), Br.mk (fun hd => ?_) (fun hd => ?_)⟩
    · simp only [leafs, decide_eq_true_eq] at hd
      conv => cbv
      refine next_q (by omega) (by simp only [leafs]; omega) (by simp only [leafs]; omega) ?_
      generalize hi2 : nextV _ _ = i2
      conv => cbv
      have hr' := nextV_in hs9.1 hd
      simp only [leafs] at hi2
      rw [hi2] at hr'
      refine ⟨inR.mk hr'.1 hr'.2, nLt.mk (by simp only [leafs]; omega), ?_⟩
      refine (LeOut.mk' [0, 1, 2, 3, 4, 5, 6] (by decide) rfl id ?_ ?_).two
      · conv => cbv
        try simp only [leafs]
        refine ⟨?_, ?_, trivial⟩
        · rw [← hr1, pick1, hb3, hi1]
        · rw [← hr2, pick1, hb4, hi2]
      · subst hs'
        unfold costS
        simp only
        generalize hn1 : nc + 1 = n1
        generalize hn2 : nf + 1 = n2
        conv => cbv
        simp only [leafs]
        refine ⟨⟨?_, ?_, trivial⟩, ⟨fun j _ => by cbv, trivial⟩, trivial⟩
        · rw [IntWalk.i64_in _ (by omega)]; exact hn1.symm
        · rw [IntWalk.i64_in _ (by omega)]; exact hn2.symm
    · simp only [leafs, decide_eq_false_iff_not] at hd
      conv => cbv
      refine (LeOut.mk' [0, 1, 2, 3, 4, 5, 6] (by decide) rfl id ?_ ?_).two
      · conv => cbv
        try simp only [leafs]
        refine ⟨?_, ?_, trivial⟩
        · rw [← hr1, pick1, hb3, hi1]
        · rw [← hr2, pick1_nil (by omega)]
      · subst hs'
        unfold costS
        simp only
        generalize hn1 : nc + 1 = n1
        generalize hn2 : nf + 1 = n2
        conv => cbv
        simp only [leafs]
        refine ⟨⟨?_, ?_, trivial⟩, ⟨fun j _ => by cbv, trivial⟩, trivial⟩
        · rw [IntWalk.i64_in _ (by omega)]; exact hn1.symm
        · rw [IntWalk.i64_in _ (by omega)]; exact hn2.symm
  · simp only [leafs, decide_eq_false_iff_not] at hc
    conv => cbv
    refine Br.mk (fun hd => ?_) (fun hd => ?_)
    · simp only [leafs, decide_eq_true_eq] at hd
      conv => cbv
      refine next_q (by omega) (by simp only [leafs]; omega) (by simp only [leafs]; omega) ?_
      generalize hi2 : nextV _ _ = i2
      conv => cbv
      have hr' := nextV_in hs9.1 hd
      simp only [leafs] at hi2
      rw [hi2] at hr'
      refine ⟨inR.mk hr'.1 hr'.2, nLt.mk (by simp only [leafs]; omega), ?_⟩
      refine (LeOut.mk' [0, 1, 2, 3, 4, 5, 6] (by decide) rfl id ?_ ?_).two
      · conv => cbv
        try simp only [leafs]
        refine ⟨?_, ?_, trivial⟩
        · rw [← hr1, pick1_nil (by omega)]
        · rw [← hr2, pick1, hb4, hi2]
      · subst hs'
        unfold costS
        simp only
        generalize hn1 : nc + 1 = n1
        generalize hn2 : nf + 1 = n2
        conv => cbv
        simp only [leafs]
        refine ⟨⟨?_, ?_, trivial⟩, ⟨fun j _ => by cbv, trivial⟩, trivial⟩
        · rw [IntWalk.i64_in _ (by omega)]; exact hn1.symm
        · rw [IntWalk.i64_in _ (by omega)]; exact hn2.symm
    · simp only [leafs, decide_eq_false_iff_not] at hd
      conv => cbv
      refine (LeOut.mk' [0, 1, 2, 3, 4, 5, 6] (by decide) rfl id ?_ ?_).two
      · conv => cbv
        try simp only [leafs]
        refine ⟨?_, ?_, trivial⟩
        · rw [← hr1, pick1_nil (by omega)]
        · rw [← hr2, pick1_nil (by omega)]
      · subst hs'
        unfold costS
        simp only
        generalize hn1 : nc + 1 = n1
        generalize hn2 : nf + 1 = n2
        conv => cbv
        simp only [leafs]
        refine ⟨⟨?_, ?_, trivial⟩, ⟨fun j _ => by cbv, trivial⟩, trivial⟩
        · rw [IntWalk.i64_in _ (by omega)]; exact hn1.symm
        · rw [IntWalk.i64_in _ (by omega)]; exact hn2.symm
end Go.Proofs.YtkljgpepogkgdaaDoor
namespace Go.Proofs.YtkljgpepogkgdaaDoor
open Go Go.Vex
set_option maxRecDepth 20000
set_option maxHeartbeats 4000000
def logS (s : BoardS) (k a z v : Int) : BoardS := { s with lk := s.lk ++ [k], la := s.la ++ [a], ls := s.ls ++ [z], lv := s.lv ++ [v] }
theorem gi_app {l : List Int} {n : Nat} (h : l.length = n) (x : Int) (j : Nat) (hj : j < n + 1) : gi (l ++ [x]) j = if j < n then gi l j else x := by
  simp only [gi_eq]
  split
  · rw [List.getD_eq_getElem?_getD, List.getD_eq_getElem?_getD, List.getElem?_append_left (by omega)]
  · rw [List.getD_eq_getElem?_getD, show j = l.length by omega]; simp
theorem logF_app (τ τ' : Nat → Nat) {lk la ls lv lk' la' ls' lv' : List Int} {n : Nat} {k a z v : Int} {c1 c2 c3 c4 : S Int} (h1 : lk.length = n) (h2 : la.length = n) (h3 : ls.length = n) (h4 : lv.length = n)
    (e1 : lk ++ [k] = lk') (e2 : la ++ [a] = la') (e3 : ls ++ [z] = ls') (e4 : lv ++ [v] = lv') (g1 : c1.val = k) (g2 : c2.val = a) (g3 : c3.val = z) (g4 : c4.val = v) (j : Nat) (hj : j < n + 1) :
    leL (if j < n then renL τ (logF lk la ls lv j) else [.i .u8 c1, .i .u32 c2, .i .i64 c3, .i .u32 c4]) (renL τ' (logF lk' la' ls' lv' j)) := by
  subst e1; subst e2; subst e3; subst e4
  have f1 := gi_app h1 k j hj
  have f2 := gi_app h2 a j hj
  have f3 := gi_app h3 z j hj
  have f4 := gi_app h4 v j hj
  unfold logF
  split
  · rename_i hjn
    rw [if_pos hjn] at f1 f2 f3 f4
    simp only [renL, ren, leL, leV, S.val, f1, f2, f3, f4, and_self]
  · rename_i hjn
    rw [if_neg hjn] at f1 f2 f3 f4
    simp only [renL, ren, leL, leV, S.val_ex, f1, f2, f3, f4, g1, g2, g3, g4, and_self]
theorem cost_v {words values cycles faults : List Int} {time line : Int} {odd : Bool} {lk la ls lv : List Int} {nw nv nc nf r1 r2 n1 n2 : Int} {mw mv mc mf ml cw cv cc cf cl : Nat}
    (hr1 : pick1 cycles nc = r1) (hr2 : pick1 faults nf = r2) (hn1 : nc + 1 = n1) (hn2 : nf + 1 = n2) (hs : BBnd ⟨words, values, cycles, faults, time, line, odd, lk, la, ls, lv, nw, nv, nc, nf⟩)
    (hb : BoardOk ⟨words, values, cycles, faults, time, line, odd, lk, la, ls, lv, nw, nv, nc, nf⟩ mw mv mc mf ml cl) :
    Spec1 kit 86 [.p 0 (.at 0)] (boardL ⟨words, values, cycles, faults, time, line, odd, lk, la, ls, lv, nw, nv, nc, nf⟩ mw mv mc mf ml cw cv cc cf cl) false (.tup [.i .i64 (.ex r1), .i .i64 (.ex r2)])
      (boardL ⟨words, values, cycles, faults, time, line, odd, lk, la, ls, lv, nw, nv, n1, n2⟩ mw mv mc mf ml cw cv cc cf cl) [] := by
  subst hr1; subst hr2; subst hn1; subst hn2
  exact cost_spec _ hs hb
noncomputable def I31 : FnT := [(31, fi Tryd.f31 ⟨[], 0⟩)]
theorem I31ok : FnsOk kit I31 := ⟨fo31 _, trivial⟩
def fetchS (s : BoardS) (pc : Int) : BoardS := let t := costS (logS s 102 pc 0 0); if s.words.length = 0 then t else { t with nw := s.nw + 1 }
theorem fetch_spec (s : BoardS) (pc : Int) (hs : BBnd s) (hs5 : s.lk.length < 1000000) : Spec1 kit 31 [.p 0 (.at 0), .i .u32 (.ex pc)] [boardB s] false
    (.tup [.i .u32 (.ex (pick1 s.words s.nw)), .i .i64 (.ex (pick1 s.cycles s.nc)), .i .i64 (.ex (pick1 s.faults s.nf))]) [boardB (fetchS s pc)] [] := by
  generalize hr0 : pick1 s.words s.nw = r0
  generalize hr1 : pick1 s.cycles s.nc = r1
  generalize hr2 : pick1 s.faults s.nf = r2
  generalize hs' : fetchS s pc = s'
  refine Spec1.mk2 rfl fun F => OkCall.unfold 0 rfl (CallOk.of (fo31 ⟨[], 0⟩)) ?_
  rintro l ⟨mw, mv, mc, mf, ml, cw, cv, cc, cf, cl, hb, rfl⟩
  obtain ⟨words, values, cycles, faults, time, line, odd, lk, la, ls, lv, nw, nv, nc, nf⟩ := s
  obtain ⟨hb1, hb2, hb3, hb4, hb5, hb6, hb7, hb8, hb9⟩ := hb
  obtain ⟨hs1, hs2, hs3, hs4, hs6, hs7, hs8, hs9⟩ := hs
  simp only at *
  obtain ⟨lk', he1⟩ : ∃ x, lk ++ [102] = x := ⟨_, rfl⟩
  obtain ⟨la', he2⟩ : ∃ x, la ++ [pc] = x := ⟨_, rfl⟩
  obtain ⟨ls', he3⟩ : ∃ x, ls ++ [0] = x := ⟨_, rfl⟩
  obtain ⟨lv', he4⟩ : ∃ x, lv ++ [0] = x := ⟨_, rfl⟩
  obtain ⟨ml', hm⟩ : ∃ x, ml + 1 = x := ⟨_, rfl⟩
  have hk' : lk'.length = ml' := by rw [← he1, ← hm, ← hb5]; simp
  have ha' : la'.length = ml' := by rw [← he2, ← hm, ← hb6]; simp
  have hz' : ls'.length = ml' := by rw [← he3, ← hm, ← hb7]; simp
  have hl' : lv'.length = ml' := by rw [← he4, ← hm, ← hb8]; simp
  refine into I31ok 6 ?_
  conv => cbv
  refine ⟨eqN.rfl _, eqN.mk (by simp only [leafs]; omega), apOk.mk (by simp only [leafs]; omega) (by simp only [leafs]; omega), AllN.mk fun k1 hk1 => ?_⟩
  simp only [leafs] at hk1
  rw [hm] at hk1
  conv => cbv
  obtain ⟨n1, hn1⟩ : ∃ x, nc + 1 = x := ⟨_, rfl⟩
  obtain ⟨n2, hn2⟩ : ∃ x, nf + 1 = x := ⟨_, rfl⟩
  have hbnd : lk.length + 1 < 1000001 := by omega
  refine OkCall.by_spec (cost_v (words := words) (values := values) (cycles := cycles) (faults := faults) (time := time) (line := line) (odd := odd) (lk := lk') (la := la') (ls := ls') (lv := lv') (nw := nw) (nv := nv) (mw := mw) (mv := mv) (mc := mc) (mf := mf) (ml := ml') (cw := cw) (cv := cv) (cc := cc) (cf := cf) (cl := k1) hr1 hr2 hn1 hn2
    ⟨hs1, hs2, hs3, hs4, hs6, hs7, hs8, hs9⟩ ⟨hb1, hb2, hb3, hb4, hk', ha', hz', hl', hk1⟩) [0, 2, 3, 4, 5, 8] (by decide) (by cbv) ?_ ?_
  · conv => cbv
    simp only [leafs]
    rw [hm]
    exact ⟨⟨⟨rfl, trivial⟩, trivial⟩, ⟨⟨rfl, fun j hj => logF_app _ _ hb5 hb6 hb7 hb8 he1 he2 he3 he4 rfl rfl rfl rfl j (by rw [hm]; exact hj)⟩, rfl, trivial⟩, trivial⟩
  · obtain ⟨n3, hn3⟩ : ∃ x, nw + 1 = x := ⟨_, rfl⟩
    conv => cbv
    refine Br.mk (fun hc => ?_) (fun hc => ?_)
    · simp only [leafs, beq_iff_eq] at hc
      conv => cbv
      have es : s' = ⟨words, values, cycles, faults, time, line, odd, lk', la', ls', lv', nw, nv, n1, n2⟩ := by rw [← hs']; simp only [fetchS, costS, logS]; rw [if_pos (by omega), he1, he2, he3, he4, hn1, hn2]
      subst es
      refine LeOut2.imp (HImp.fold (S := boardSh _) 0 [2, 3, 4, 5, 8] (boardL ⟨words, values, cycles, faults, time, line, odd, lk', la', ls', lv', nw, nv, n1, n2⟩ mw mv mc mf ml' cw cv cc cf k1) (by decide) ?_ ⟨mw, mv, mc, mf, ml', cw, cv, cc, cf, k1, ⟨hb1, hb2, hb3, hb4, hk', ha', hz', hl', hk1⟩, rfl⟩) ((LeOut.mk' [0, 1] (by decide) rfl id ?_ (by cbv)).two)
      · conv => cbv
        try simp only [leafs]
        exact ⟨⟨fun j _ => logF_le _ _ _ _ _ _ _, trivial⟩, trivial⟩
      · conv => cbv
        try simp only [leafs]
        exact ⟨by rw [← hr0, pick1_nil (by omega)], trivial⟩
    · simp only [leafs, beq_eq_false_iff_ne, ne_eq] at hc
      conv => cbv
      have hm0 : mw ≠ 0 := by omega
      refine next_q (by omega) (by simp only [leafs]; omega) (by simp only [leafs]; omega) ?_
      generalize hi1 : nextV _ _ = i1
      conv => cbv
      have hr := nextV_in hs6.1 (show (0 : Int) < (mw : Int) by omega)
      simp only [leafs] at hi1
      rw [hi1] at hr
      refine ⟨inR.mk hr.1 hr.2, nLt.mk (by simp only [leafs]; omega), ?_⟩
      have es : s' = ⟨words, values, cycles, faults, time, line, odd, lk', la', ls', lv', n3, nv, n1, n2⟩ := by rw [← hs']; simp only [fetchS, costS, logS]; rw [if_neg (by omega), he1, he2, he3, he4, hn1, hn2, hn3]
      subst es
      refine LeOut2.imp (HImp.fold (S := boardSh _) 0 [2, 3, 4, 5, 8] (boardL ⟨words, values, cycles, faults, time, line, odd, lk', la', ls', lv', n3, nv, n1, n2⟩ mw mv mc mf ml' cw cv cc cf k1) (by decide) ?_ ⟨mw, mv, mc, mf, ml', cw, cv, cc, cf, k1, ⟨hb1, hb2, hb3, hb4, hk', ha', hz', hl', hk1⟩, rfl⟩) ((LeOut.mk' [0, 1] (by decide) rfl id ?_ (by cbv)).two)
      · conv => cbv
        try simp only [leafs]
        exact ⟨⟨by rw [IntWalk.i64_in _ (by omega)]; exact hn3.symm, trivial⟩, ⟨fun j _ => logF_le _ _ _ _ _ _ _, trivial⟩, trivial⟩
      · conv => cbv
        try simp only [leafs]
        exact ⟨by rw [← hr0, pick1, hb1, hi1], trivial⟩

noncomputable def I92 : FnT := [(92, fi Tryd.f92 ⟨[], 0⟩)]
theorem I92ok : FnsOk kit I92 := ⟨fo92 _, trivial⟩
def loadS (s : BoardS) (at_ z : Int) : BoardS := let t := costS (logS s 108 at_ z 0); if s.values.length = 0 then t else { t with nv := s.nv + 1 }
theorem load_spec (s : BoardS) (at_ z : Int) (hs : BBnd s) (hs5 : s.lk.length < 1000000) : Spec1 kit 92 [.p 0 (.at 0), .i .u32 (.ex at_), .i .i64 (.ex z)] [boardB s] false
    (.tup [.i .u32 (.ex (pick1 s.values s.nv)), .i .i64 (.ex (pick1 s.cycles s.nc)), .i .i64 (.ex (pick1 s.faults s.nf))]) [boardB (loadS s at_ z)] [] := by
  generalize hr0 : pick1 s.values s.nv = r0
  generalize hr1 : pick1 s.cycles s.nc = r1
  generalize hr2 : pick1 s.faults s.nf = r2
  generalize hs' : loadS s at_ z = s'
  refine Spec1.mk2 rfl fun F => OkCall.unfold 0 rfl (CallOk.of (fo92 ⟨[], 0⟩)) ?_
  rintro l ⟨mw, mv, mc, mf, ml, cw, cv, cc, cf, cl, hb, rfl⟩
  obtain ⟨words, values, cycles, faults, time, line, odd, lk, la, ls, lv, nw, nv, nc, nf⟩ := s
  obtain ⟨hb1, hb2, hb3, hb4, hb5, hb6, hb7, hb8, hb9⟩ := hb
  obtain ⟨hs1, hs2, hs3, hs4, hs6, hs7, hs8, hs9⟩ := hs
  simp only at *
  obtain ⟨lk', he1⟩ : ∃ x, lk ++ [108] = x := ⟨_, rfl⟩
  obtain ⟨la', he2⟩ : ∃ x, la ++ [at_] = x := ⟨_, rfl⟩
  obtain ⟨ls', he3⟩ : ∃ x, ls ++ [z] = x := ⟨_, rfl⟩
  obtain ⟨lv', he4⟩ : ∃ x, lv ++ [0] = x := ⟨_, rfl⟩
  obtain ⟨ml', hm⟩ : ∃ x, ml + 1 = x := ⟨_, rfl⟩
  have hk' : lk'.length = ml' := by rw [← he1, ← hm, ← hb5]; simp
  have ha' : la'.length = ml' := by rw [← he2, ← hm, ← hb6]; simp
  have hz' : ls'.length = ml' := by rw [← he3, ← hm, ← hb7]; simp
  have hl' : lv'.length = ml' := by rw [← he4, ← hm, ← hb8]; simp
  refine into I92ok 6 ?_
  conv => cbv
  refine ⟨eqN.rfl _, eqN.mk (by simp only [leafs]; omega), apOk.mk (by simp only [leafs]; omega) (by simp only [leafs]; omega), AllN.mk fun k1 hk1 => ?_⟩
  simp only [leafs] at hk1
  rw [hm] at hk1
  conv => cbv
  obtain ⟨n1, hn1⟩ : ∃ x, nc + 1 = x := ⟨_, rfl⟩
  obtain ⟨n2, hn2⟩ : ∃ x, nf + 1 = x := ⟨_, rfl⟩
  have hbnd : lk.length + 1 < 1000001 := by omega
  refine OkCall.by_spec (cost_v (words := words) (values := values) (cycles := cycles) (faults := faults) (time := time) (line := line) (odd := odd) (lk := lk') (la := la') (ls := ls') (lv := lv') (nw := nw) (nv := nv) (mw := mw) (mv := mv) (mc := mc) (mf := mf) (ml := ml') (cw := cw) (cv := cv) (cc := cc) (cf := cf) (cl := k1) hr1 hr2 hn1 hn2
    ⟨hs1, hs2, hs3, hs4, hs6, hs7, hs8, hs9⟩ ⟨hb1, hb2, hb3, hb4, hk', ha', hz', hl', hk1⟩) [0, 2, 3, 4, 5, 8] (by decide) (by cbv) ?_ ?_
  · conv => cbv
    simp only [leafs]
    rw [hm]
    exact ⟨⟨⟨rfl, trivial⟩, trivial⟩, ⟨⟨rfl, fun j hj => logF_app _ _ hb5 hb6 hb7 hb8 he1 he2 he3 he4 rfl rfl rfl rfl j (by rw [hm]; exact hj)⟩, rfl, trivial⟩, trivial⟩
  · obtain ⟨n3, hn3⟩ : ∃ x, nv + 1 = x := ⟨_, rfl⟩
    conv => cbv
    refine Br.mk (fun hc => ?_) (fun hc => ?_)
    · simp only [leafs, beq_iff_eq] at hc
      conv => cbv
      have es : s' = ⟨words, values, cycles, faults, time, line, odd, lk', la', ls', lv', nw, nv, n1, n2⟩ := by rw [← hs']; simp only [loadS, costS, logS]; rw [if_pos (by omega), he1, he2, he3, he4, hn1, hn2]
      subst es
      refine LeOut2.imp (HImp.fold (S := boardSh _) 0 [2, 3, 4, 5, 8] (boardL ⟨words, values, cycles, faults, time, line, odd, lk', la', ls', lv', nw, nv, n1, n2⟩ mw mv mc mf ml' cw cv cc cf k1) (by decide) ?_ ⟨mw, mv, mc, mf, ml', cw, cv, cc, cf, k1, ⟨hb1, hb2, hb3, hb4, hk', ha', hz', hl', hk1⟩, rfl⟩) ((LeOut.mk' [0, 1] (by decide) rfl id ?_ (by cbv)).two)
      · conv => cbv
        try simp only [leafs]
        exact ⟨⟨fun j _ => logF_le _ _ _ _ _ _ _, trivial⟩, trivial⟩
      · conv => cbv
        try simp only [leafs]
        exact ⟨by rw [← hr0, pick1_nil (by omega)], trivial⟩
    · simp only [leafs, beq_eq_false_iff_ne, ne_eq] at hc
      conv => cbv
      have hm0 : mv ≠ 0 := by omega
      refine next_q (by omega) (by simp only [leafs]; omega) (by simp only [leafs]; omega) ?_
      generalize hi1 : nextV _ _ = i1
      conv => cbv
      have hr := nextV_in hs7.1 (show (0 : Int) < (mv : Int) by omega)
      simp only [leafs] at hi1
      rw [hi1] at hr
      refine ⟨inR.mk hr.1 hr.2, nLt.mk (by simp only [leafs]; omega), ?_⟩
      have es : s' = ⟨words, values, cycles, faults, time, line, odd, lk', la', ls', lv', nw, n3, n1, n2⟩ := by rw [← hs']; simp only [loadS, costS, logS]; rw [if_neg (by omega), he1, he2, he3, he4, hn1, hn2, hn3]
      subst es
      refine LeOut2.imp (HImp.fold (S := boardSh _) 0 [2, 3, 4, 5, 8] (boardL ⟨words, values, cycles, faults, time, line, odd, lk', la', ls', lv', nw, n3, n1, n2⟩ mw mv mc mf ml' cw cv cc cf k1) (by decide) ?_ ⟨mw, mv, mc, mf, ml', cw, cv, cc, cf, k1, ⟨hb1, hb2, hb3, hb4, hk', ha', hz', hl', hk1⟩, rfl⟩) ((LeOut.mk' [0, 1] (by decide) rfl id ?_ (by cbv)).two)
      · conv => cbv
        try simp only [leafs]
        exact ⟨⟨by rw [IntWalk.i64_in _ (by omega)]; exact hn3.symm, trivial⟩, ⟨fun j _ => logF_le _ _ _ _ _ _ _, trivial⟩, trivial⟩
      · conv => cbv
        try simp only [leafs]
        exact ⟨by rw [← hr0, pick1, hb2, hi1], trivial⟩

noncomputable def I93 : FnT := [(93, fi Tryd.f93 ⟨[], 0⟩)]
theorem I93ok : FnsOk kit I93 := ⟨fo93 _, trivial⟩
def storeS (s : BoardS) (at_ z v : Int) : BoardS := costS (logS s 115 at_ z v)
theorem store_spec (s : BoardS) (at_ z v : Int) (hs : BBnd s) (hs5 : s.lk.length < 1000000) : Spec1 kit 93 [.p 0 (.at 0), .i .u32 (.ex at_), .i .i64 (.ex z), .i .u32 (.ex v)] [boardB s] false
    (.tup [.i .i64 (.ex (pick1 s.cycles s.nc)), .i .i64 (.ex (pick1 s.faults s.nf))]) [boardB (storeS s at_ z v)] [] := by
  generalize hr1 : pick1 s.cycles s.nc = r1
  generalize hr2 : pick1 s.faults s.nf = r2
  generalize hs' : storeS s at_ z v = s'
  refine Spec1.mk2 rfl fun F => OkCall.unfold 0 rfl (CallOk.of (fo93 ⟨[], 0⟩)) ?_
  rintro l ⟨mw, mv, mc, mf, ml, cw, cv, cc, cf, cl, hb, rfl⟩
  obtain ⟨words, values, cycles, faults, time, line, odd, lk, la, ls, lv, nw, nv, nc, nf⟩ := s
  obtain ⟨hb1, hb2, hb3, hb4, hb5, hb6, hb7, hb8, hb9⟩ := hb
  obtain ⟨hs1, hs2, hs3, hs4, hs6, hs7, hs8, hs9⟩ := hs
  simp only at *
  obtain ⟨lk', he1⟩ : ∃ x, lk ++ [115] = x := ⟨_, rfl⟩
  obtain ⟨la', he2⟩ : ∃ x, la ++ [at_] = x := ⟨_, rfl⟩
  obtain ⟨ls', he3⟩ : ∃ x, ls ++ [z] = x := ⟨_, rfl⟩
  obtain ⟨lv', he4⟩ : ∃ x, lv ++ [v] = x := ⟨_, rfl⟩
  obtain ⟨ml', hm⟩ : ∃ x, ml + 1 = x := ⟨_, rfl⟩
  have hk' : lk'.length = ml' := by rw [← he1, ← hm, ← hb5]; simp
  have ha' : la'.length = ml' := by rw [← he2, ← hm, ← hb6]; simp
  have hz' : ls'.length = ml' := by rw [← he3, ← hm, ← hb7]; simp
  have hl' : lv'.length = ml' := by rw [← he4, ← hm, ← hb8]; simp
  refine into I93ok 6 ?_
  conv => cbv
  refine ⟨eqN.rfl _, eqN.mk (by simp only [leafs]; omega), apOk.mk (by simp only [leafs]; omega) (by simp only [leafs]; omega), AllN.mk fun k1 hk1 => ?_⟩
  simp only [leafs] at hk1
  rw [hm] at hk1
  conv => cbv
  obtain ⟨n1, hn1⟩ : ∃ x, nc + 1 = x := ⟨_, rfl⟩
  obtain ⟨n2, hn2⟩ : ∃ x, nf + 1 = x := ⟨_, rfl⟩
  have hbnd : lk.length + 1 < 1000001 := by omega
  refine OkCall.by_spec (cost_v (words := words) (values := values) (cycles := cycles) (faults := faults) (time := time) (line := line) (odd := odd) (lk := lk') (la := la') (ls := ls') (lv := lv') (nw := nw) (nv := nv) (mw := mw) (mv := mv) (mc := mc) (mf := mf) (ml := ml') (cw := cw) (cv := cv) (cc := cc) (cf := cf) (cl := k1) hr1 hr2 hn1 hn2
    ⟨hs1, hs2, hs3, hs4, hs6, hs7, hs8, hs9⟩ ⟨hb1, hb2, hb3, hb4, hk', ha', hz', hl', hk1⟩) [0, 2, 3, 4, 5, 8] (by decide) (by cbv) ?_ ?_
  · conv => cbv
    simp only [leafs]
    rw [hm]
    exact ⟨⟨⟨rfl, trivial⟩, trivial⟩, ⟨⟨rfl, fun j hj => logF_app _ _ hb5 hb6 hb7 hb8 he1 he2 he3 he4 rfl rfl rfl rfl j (by rw [hm]; exact hj)⟩, rfl, trivial⟩, trivial⟩
  · conv => cbv
    have es : s' = ⟨words, values, cycles, faults, time, line, odd, lk', la', ls', lv', nw, nv, n1, n2⟩ := by rw [← hs']; simp only [storeS, costS, logS]; rw [he1, he2, he3, he4, hn1, hn2]
    subst es
    refine LeOut2.imp (HImp.fold (S := boardSh _) 0 [2, 3, 4, 5, 8] (boardL ⟨words, values, cycles, faults, time, line, odd, lk', la', ls', lv', nw, nv, n1, n2⟩ mw mv mc mf ml' cw cv cc cf k1) (by decide) ?_ ⟨mw, mv, mc, mf, ml', cw, cv, cc, cf, k1, ⟨hb1, hb2, hb3, hb4, hk', ha', hz', hl', hk1⟩, rfl⟩) ((LeOut.mk' [0, 1] (by decide) rfl id ?_ (by cbv)).two)
    · conv => cbv
      try simp only [leafs]
      exact ⟨⟨fun j _ => logF_le _ _ _ _ _ _ _, trivial⟩, trivial⟩
    · conv => cbv
      try simp only [leafs]
      skip

noncomputable def I94 : FnT := [(94, fi Tryd.f94 ⟨[], 0⟩)]
theorem I94ok : FnsOk kit I94 := ⟨fo94 _, trivial⟩
def clockS (s : BoardS) : BoardS := { logS s 99 0 0 0 with time := IntKind.u64.wrap (s.time + 3) }
theorem clock_back {a : Int} (h : 0 ≤ a ∧ a < 18446744073709551616) : IntKind.u64.wrap (IntKind.u64.wrap (a + 3) - 3) = a := by simp [IntKind.wrap, IntKind.bits, IntKind.signed]; omega
theorem clock_spec (s : BoardS) (hs : BBnd s) (hs5 : s.lk.length < 1000000) (ht : 0 ≤ s.time ∧ s.time < 18446744073709551616) : Spec1 kit 94 [.p 0 (.at 0)] [boardB s] false
    (.i .u64 (.ex s.time)) [boardB (clockS s)] [] := by
  -- nothing
  generalize hs' : clockS s = s'
  refine Spec1.mk2 rfl fun F => OkCall.unfold 0 rfl (CallOk.of (fo94 ⟨[], 0⟩)) ?_
  rintro l ⟨mw, mv, mc, mf, ml, cw, cv, cc, cf, cl, hb, rfl⟩
  obtain ⟨words, values, cycles, faults, time, line, odd, lk, la, ls, lv, nw, nv, nc, nf⟩ := s
  obtain ⟨hb1, hb2, hb3, hb4, hb5, hb6, hb7, hb8, hb9⟩ := hb
  obtain ⟨hs1, hs2, hs3, hs4, hs6, hs7, hs8, hs9⟩ := hs
  simp only at *
  obtain ⟨lk', he1⟩ : ∃ x, lk ++ [99] = x := ⟨_, rfl⟩
  obtain ⟨la', he2⟩ : ∃ x, la ++ [0] = x := ⟨_, rfl⟩
  obtain ⟨ls', he3⟩ : ∃ x, ls ++ [0] = x := ⟨_, rfl⟩
  obtain ⟨lv', he4⟩ : ∃ x, lv ++ [0] = x := ⟨_, rfl⟩
  obtain ⟨ml', hm⟩ : ∃ x, ml + 1 = x := ⟨_, rfl⟩
  have hk' : lk'.length = ml' := by rw [← he1, ← hm, ← hb5]; simp
  have ha' : la'.length = ml' := by rw [← he2, ← hm, ← hb6]; simp
  have hz' : ls'.length = ml' := by rw [← he3, ← hm, ← hb7]; simp
  have hl' : lv'.length = ml' := by rw [← he4, ← hm, ← hb8]; simp
  refine into I94ok 6 ?_
  conv => cbv
  refine ⟨eqN.rfl _, eqN.mk (by simp only [leafs]; omega), apOk.mk (by simp only [leafs]; omega) (by simp only [leafs]; omega), AllN.mk fun k1 hk1 => ?_⟩
  simp only [leafs] at hk1
  rw [hm] at hk1
  conv => cbv
  obtain ⟨t3, ht3⟩ : ∃ x, IntKind.u64.wrap (time + 3) = x := ⟨_, rfl⟩
  have es : s' = ⟨words, values, cycles, faults, t3, line, odd, lk', la', ls', lv', nw, nv, nc, nf⟩ := by rw [← hs']; simp only [clockS, logS]; rw [he1, he2, he3, he4, ht3]
  subst es
  refine LeOut2.imp (HImp.fold (S := boardSh _) 0 [2, 3, 4, 5, 8] (boardL ⟨words, values, cycles, faults, t3, line, odd, lk', la', ls', lv', nw, nv, nc, nf⟩ mw mv mc mf ml' cw cv cc cf k1) (by decide) ?_ ⟨mw, mv, mc, mf, ml', cw, cv, cc, cf, k1, ⟨hb1, hb2, hb3, hb4, hk', ha', hz', hl', hk1⟩, rfl⟩) ((LeOut.mk' [0, 1] (by decide) rfl id ?_ (by cbv)).two)
  · conv => cbv
    try simp only [leafs]
    rw [hm]; exact ⟨⟨ht3.symm, ⟨rfl, trivial⟩, trivial⟩, ⟨⟨rfl, fun j hj => logF_app _ _ hb5 hb6 hb7 hb8 he1 he2 he3 he4 rfl rfl rfl rfl j (by rw [hm]; exact hj)⟩, rfl, trivial⟩, trivial⟩
  · conv => cbv
    try simp only [leafs]
    exact (clock_back ht).symm

noncomputable def I30 : FnT := [(30, fi Tryd.f30 ⟨[], 0⟩)]
theorem I30ok : FnsOk kit I30 := ⟨fo30 _, trivial⟩
def irqS (s : BoardS) : BoardS := let t := logS s 105 0 0 0; if s.line < 0 ∧ s.odd = false then t else { t with line := -1, odd := false }
def irqR (s : BoardS) : Int × Bool := if s.line < 0 ∧ s.odd = false then (0, false) else (s.line, true)
theorem irq_spec (s : BoardS) (hs : BBnd s) (hs5 : s.lk.length < 1000000) : Spec1 kit 30 [.p 0 (.at 0)] [boardB s] false
    (.tup [.i .i64 (.ex (irqR s).1), .b (.ex (irqR s).2)]) [boardB (irqS s)] [] := by
  generalize hr1 : (irqR s).1 = r1
  generalize hr2 : (irqR s).2 = r2
  generalize hs' : irqS s = s'
  refine Spec1.mk2 rfl fun F => OkCall.unfold 0 rfl (CallOk.of (fo30 ⟨[], 0⟩)) ?_
  rintro l ⟨mw, mv, mc, mf, ml, cw, cv, cc, cf, cl, hb, rfl⟩
  obtain ⟨words, values, cycles, faults, time, line, odd, lk, la, ls, lv, nw, nv, nc, nf⟩ := s
  obtain ⟨hb1, hb2, hb3, hb4, hb5, hb6, hb7, hb8, hb9⟩ := hb
  obtain ⟨hs1, hs2, hs3, hs4, hs6, hs7, hs8, hs9⟩ := hs
  simp only at *
  obtain ⟨lk', he1⟩ : ∃ x, lk ++ [105] = x := ⟨_, rfl⟩
  obtain ⟨la', he2⟩ : ∃ x, la ++ [0] = x := ⟨_, rfl⟩
  obtain ⟨ls', he3⟩ : ∃ x, ls ++ [0] = x := ⟨_, rfl⟩
  obtain ⟨lv', he4⟩ : ∃ x, lv ++ [0] = x := ⟨_, rfl⟩
  obtain ⟨ml', hm⟩ : ∃ x, ml + 1 = x := ⟨_, rfl⟩
  have hk' : lk'.length = ml' := by rw [← he1, ← hm, ← hb5]; simp
  have ha' : la'.length = ml' := by rw [← he2, ← hm, ← hb6]; simp
  have hz' : ls'.length = ml' := by rw [← he3, ← hm, ← hb7]; simp
  have hl' : lv'.length = ml' := by rw [← he4, ← hm, ← hb8]; simp
  refine into I30ok 6 ?_
  conv => cbv
  refine ⟨eqN.rfl _, eqN.mk (by simp only [leafs]; omega), apOk.mk (by simp only [leafs]; omega) (by simp only [leafs]; omega), AllN.mk fun k1 hk1 => ?_⟩
  simp only [leafs] at hk1
  rw [hm] at hk1
  conv => cbv
  refine Br.mk (fun hc => ?_) (fun hc => ?_)
  · simp only [leafs, decide_eq_true_eq] at hc
    conv => cbv
    refine Br.mk (fun hd => ?_) (fun hd => ?_)
    · simp only [leafs, Bool.not_eq_true'] at hd
      conv => cbv
      have es : s' = ⟨words, values, cycles, faults, time, line, odd, lk', la', ls', lv', nw, nv, nc, nf⟩ := by rw [← hs']; simp only [irqS, logS]; rw [if_pos ⟨hc, hd⟩, he1, he2, he3, he4]
      subst es
      refine LeOut2.imp (HImp.fold (S := boardSh _) 0 [2, 3, 4, 5, 8] (boardL ⟨words, values, cycles, faults, time, line, odd, lk', la', ls', lv', nw, nv, nc, nf⟩ mw mv mc mf ml' cw cv cc cf k1) (by decide) ?_ ⟨mw, mv, mc, mf, ml', cw, cv, cc, cf, k1, ⟨hb1, hb2, hb3, hb4, hk', ha', hz', hl', hk1⟩, rfl⟩) ((LeOut.mk' [0, 1] (by decide) rfl id ?_ (by cbv)).two)
      · conv => cbv
        try simp only [leafs]
        rw [hm]; exact ⟨⟨⟨rfl, trivial⟩, trivial⟩, ⟨⟨rfl, fun j hj => logF_app _ _ hb5 hb6 hb7 hb8 he1 he2 he3 he4 rfl rfl rfl rfl j (by rw [hm]; exact hj)⟩, rfl, trivial⟩, trivial⟩
      · conv => cbv
        try simp only [leafs]
        exact ⟨by rw [← hr1, irqR]; simp only; rw [if_pos ⟨hc, hd⟩], by rw [← hr2, irqR]; simp only; rw [if_pos ⟨hc, hd⟩], trivial⟩
    · simp only [leafs, Bool.not_eq_false'] at hd
      conv => cbv
      have es : s' = ⟨words, values, cycles, faults, time, -1, false, lk', la', ls', lv', nw, nv, nc, nf⟩ := by rw [← hs']; simp only [irqS, logS]; rw [if_neg (by rw [hd]; simp), he1, he2, he3, he4]
      subst es
      refine LeOut2.imp (HImp.fold (S := boardSh _) 0 [2, 3, 4, 5, 8] (boardL ⟨words, values, cycles, faults, time, -1, false, lk', la', ls', lv', nw, nv, nc, nf⟩ mw mv mc mf ml' cw cv cc cf k1) (by decide) ?_ ⟨mw, mv, mc, mf, ml', cw, cv, cc, cf, k1, ⟨hb1, hb2, hb3, hb4, hk', ha', hz', hl', hk1⟩, rfl⟩) ((LeOut.mk' [0, 1] (by decide) rfl id ?_ (by cbv)).two)
      · conv => cbv
        try simp only [leafs]
        rw [hm]; exact ⟨⟨⟨rfl, trivial⟩, trivial⟩, ⟨⟨rfl, fun j hj => logF_app _ _ hb5 hb6 hb7 hb8 he1 he2 he3 he4 rfl rfl rfl rfl j (by rw [hm]; exact hj)⟩, rfl, trivial⟩, trivial⟩
      · conv => cbv
        try simp only [leafs]
        exact ⟨by rw [← hr1, irqR]; simp only; rw [if_neg (by rw [hd]; simp)], by rw [← hr2, irqR]; simp only; rw [if_neg (by rw [hd]; simp)], trivial⟩
  · simp only [leafs, decide_eq_false_iff_not] at hc
    conv => cbv
    have es : s' = ⟨words, values, cycles, faults, time, -1, false, lk', la', ls', lv', nw, nv, nc, nf⟩ := by rw [← hs']; simp only [irqS, logS]; rw [if_neg (fun h => hc h.1), he1, he2, he3, he4]
    subst es
    refine LeOut2.imp (HImp.fold (S := boardSh _) 0 [2, 3, 4, 5, 8] (boardL ⟨words, values, cycles, faults, time, -1, false, lk', la', ls', lv', nw, nv, nc, nf⟩ mw mv mc mf ml' cw cv cc cf k1) (by decide) ?_ ⟨mw, mv, mc, mf, ml', cw, cv, cc, cf, k1, ⟨hb1, hb2, hb3, hb4, hk', ha', hz', hl', hk1⟩, rfl⟩) ((LeOut.mk' [0, 1] (by decide) rfl id ?_ (by cbv)).two)
    · conv => cbv
      try simp only [leafs]
      rw [hm]; exact ⟨⟨⟨rfl, trivial⟩, trivial⟩, ⟨⟨rfl, fun j hj => logF_app _ _ hb5 hb6 hb7 hb8 he1 he2 he3 he4 rfl rfl rfl rfl j (by rw [hm]; exact hj)⟩, rfl, trivial⟩, trivial⟩
    · conv => cbv
      try simp only [leafs]
      exact ⟨by rw [← hr1, irqR]; simp only; rw [if_neg (fun h => hc h.1)], by rw [← hr2, irqR]; simp only; rw [if_neg (fun h => hc h.1)], trivial⟩

end Go.Proofs.YtkljgpepogkgdaaDoor
namespace Go.Proofs.YtkljgpepogkgdaaDoor
open Go Go.Vex
set_option maxRecDepth 20000
set_option maxHeartbeats 4000000
noncomputable def I16 : FnT := [(16, fi Tryd.f16 ⟨[], 0⟩)]
theorem I16ok : FnsOk kit I16 := ⟨fo16 _, trivial⟩
structure BSz (s : BoardS) : Prop where
  w : s.words.length ≤ 35184372088800
  v : s.values.length ≤ 35184372088800
  c : s.cycles.length ≤ 17592186044400
  f : s.faults.length ≤ 17592186044400
  l : s.lk.length ≤ 1000000
theorem copied_spec (s : BoardS) (hs : BSz s) : Spec1 kit 16 [.p 0 (.at 0)] [boardB s] false (.p 2 (.at 0)) [boardB s] [boardB s] := by
  refine Spec1.mk2 rfl fun F => OkCall.unfold 0 rfl (CallOk.of (fo16 ⟨[], 0⟩)) ?_
  rintro l ⟨mw, mv, mc, mf, ml, cw, cv, cc, cf, cl, hb, rfl⟩
  obtain ⟨words, values, cycles, faults, time, line, odd, lk, la, ls, lv, nw, nv, nc, nf⟩ := s
  obtain ⟨hb1, hb2, hb3, hb4, hb5, hb6, hb7, hb8, hb9⟩ := hb
  obtain ⟨hs1, hs2, hs3, hs4, hs5⟩ := hs
  simp only at *
  refine into I16ok 6 ?_
  conv => cbv
  refine ⟨eqN.rfl _, apOk.mk (by omega) (by omega), AllN.mk fun k1 hk1 => ?_⟩
  conv => cbv
  refine ⟨eqN.rfl _, apOk.mk (by omega) (by omega), AllN.mk fun k2 hk2 => ?_⟩
  conv => cbv
  refine ⟨eqN.rfl _, apOk.mk (by omega) (by omega), AllN.mk fun k3 hk3 => ?_⟩
  conv => cbv
  refine ⟨eqN.rfl _, apOk.mk (by omega) (by omega), AllN.mk fun k4 hk4 => ?_⟩
  conv => cbv
  refine ⟨eqN.rfl _, apOk.mk (by omega) (by omega), AllN.mk fun k5 hk5 => ?_⟩
  conv => cbv
  refine LeOut2.imp (HImp.roInts 8 rfl) (LeOut2.imp (HImp.roInts 9 rfl) (LeOut2.imp (HImp.roInts 10 rfl) (LeOut2.imp (HImp.roInts 11 rfl) ?_)))
  refine LeOut2.imp (HImp.fold (S := boardSh _) 0 [2, 3, 4, 5, 6] (boardL ⟨words, values, cycles, faults, time, line, odd, lk, la, ls, lv, nw, nv, nc, nf⟩ mw mv mc mf ml cw cv cc cf cl) (by decide) ?_ ⟨mw, mv, mc, mf, ml, cw, cv, cc, cf, cl, ⟨hb1, hb2, hb3, hb4, hb5, hb6, hb7, hb8, hb9⟩, rfl⟩) ?_
  · conv => cbv
    exact ⟨⟨fun j _ => logF_le _ _ _ _ _ _ _, trivial⟩, trivial⟩
  refine LeOut2.imp (HImp.fold (S := boardSh _) 7 [8, 9, 10, 11, 12] (boardL ⟨words, values, cycles, faults, time, line, odd, lk, la, ls, lv, nw, nv, nc, nf⟩ mw mv mc mf ml k1 k2 k3 k4 k5) (by decide) ?_ ⟨mw, mv, mc, mf, ml, k1, k2, k3, k4, k5, ⟨hb1, hb2, hb3, hb4, hb5, hb6, hb7, hb8, hk5⟩, rfl⟩) ?_
  · conv => cbv
    exact ⟨⟨fun j _ => logF_le _ _ _ _ _ _ _, trivial⟩, trivial⟩
  exact (LeOut.mk' [0, 1, 7] (by decide) rfl id (by cbv) (by cbv)).two
end Go.Proofs.YtkljgpepogkgdaaDoor
namespace Go.Proofs.YtkljgpepogkgdaaDoor
open Go Go.Vex
set_option maxRecDepth 20000
set_option maxHeartbeats 4000000
theorem ext_getD {a b : List Int} {n : Nat} (ha : a.length = n) (hb : b.length = n) (h : ∀ j, j < n → a.getD j 0 = b.getD j 0) : a = b := by
  refine List.ext_getElem (ha.trans hb.symm) fun j h1 h2 => ?_
  have := h j (by omega)
  simpa [List.getD_eq_getElem?_getD, List.getElem?_eq_getElem h1, List.getElem?_eq_getElem h2] using this
noncomputable def I14 : FnT := [(14, fi Tryd.f14 ⟨[], 0⟩)]
theorem I14ok : FnsOk kit I14 := ⟨fo14 _, trivial⟩
theorem same_spec (s t : BoardS) (hs : s.lk.length ≤ 1000000) (ht : t.lk.length ≤ 1000000) {r : Bool} (hr : r = decide (s.lk = t.lk ∧ s.la = t.la ∧ s.ls = t.ls ∧ s.lv = t.lv)) : Spec1 kit 14 [.p 0 (.at 0), .p 1 (.at 0)] [boardB s, boardB t] false (.b (.ex r)) [boardB s, boardB t] [] := by
  refine Spec1.mk2 rfl fun F => OkCall.unfold 0 rfl (CallOk.of (fo14 ⟨[], 0⟩)) ?_
  rintro l ⟨mw, mv, mc, mf, ml, cw, cv, cc, cf, cl, hb, rfl⟩
  refine OkCall.unfold (S := boardSh t) 1 rfl (CallOk.of (fo14 ⟨[], 0⟩)) ?_
  rintro l ⟨mw', mv', mc', mf', ml', cw', cv', cc', cf', cl', hb', rfl⟩
  obtain ⟨words, values, cycles, faults, time, line, odd, lk, la, ls, lv, nw, nv, nc, nf⟩ := s
  obtain ⟨hb1, hb2, hb3, hb4, hb5, hb6, hb7, hb8, hb9⟩ := hb
  obtain ⟨words', values', cycles', faults', time', line', odd', lk', la', ls', lv', nw', nv', nc', nf'⟩ := t
  obtain ⟨gb1, gb2, gb3, gb4, gb5, gb6, gb7, gb8, gb9⟩ := hb'
  simp only at *
  refine into I14ok 6 ?_
  conv => cbv
  refine Br.mk (fun hc => ?_) (fun hc => ?_)
  · simp only [leafs, Bool.not_eq_true', beq_eq_false_iff_ne, ne_eq, Int.natCast_inj] at hc
    conv => cbv
    refine LeOut2.imp (HImp.fold (S := boardSh _) 0 [3, 4, 5, 6, 7] (boardL ⟨words, values, cycles, faults, time, line, odd, lk, la, ls, lv, nw, nv, nc, nf⟩ mw mv mc mf ml cw cv cc cf cl) (by decide) ?_ ⟨mw, mv, mc, mf, ml, cw, cv, cc, cf, cl, ⟨hb1, hb2, hb3, hb4, hb5, hb6, hb7, hb8, hb9⟩, rfl⟩) ?_
    · conv => cbv
      exact ⟨⟨fun j _ => by cbv, trivial⟩, trivial⟩
    refine LeOut2.imp (HImp.fold (S := boardSh _) 1 [8, 9, 10, 11, 12] (boardL ⟨words', values', cycles', faults', time', line', odd', lk', la', ls', lv', nw', nv', nc', nf'⟩ mw' mv' mc' mf' ml' cw' cv' cc' cf' cl') (by decide) ?_ ⟨mw', mv', mc', mf', ml', cw', cv', cc', cf', cl', ⟨gb1, gb2, gb3, gb4, gb5, gb6, gb7, gb8, gb9⟩, rfl⟩) ?_
    · conv => cbv
      exact ⟨⟨fun j _ => by cbv, trivial⟩, trivial⟩
    refine (LeOut.mk' [0, 1, 2] (by decide) rfl (by decide) ?_ (by cbv)).two
    conv => cbv
    rw [hr, decide_eq_false_iff_not]; rintro ⟨h, _⟩; rw [h] at hb5; omega
  · simp only [leafs, Bool.not_eq_false', beq_iff_eq, Int.natCast_inj] at hc
    conv => cbv
    refine byInv I14ok 6 ⟨[], 0⟩ (fun z : Int => ⟨[(5, .i .i64 (.ex z)), (0, .p 0 (.at 0)), (1, .p 1 (.at 0))],
      unf (unf ([boardB ⟨words, values, cycles, faults, time, line, odd, lk, la, ls, lv, nw, nv, nc, nf⟩, boardB ⟨words', values', cycles', faults', time', line', odd', lk', la', ls', lv', nw', nv', nc', nf'⟩] ++ [.abs F]) 0 (boardL ⟨words, values, cycles, faults, time, line, odd, lk, la, ls, lv, nw, nv, nc, nf⟩ mw mv mc mf ml cw cv cc cf cl)) 1 (boardL ⟨words', values', cycles', faults', time', line', odd', lk', la', ls', lv', nw', nv', nc', nf'⟩ mw' mv' mc' mf' ml' cw' cv' cc' cf' cl')⟩)
      (fun z => ml - z.toNat) (fun z => 0 ≤ z ∧ z.toNat ≤ ml ∧ ∀ j, j < z.toNat → lk.getD j 0 = lk'.getD j 0 ∧ la.getD j 0 = la'.getD j 0 ∧ ls.getD j 0 = ls'.getD j 0 ∧ lv.getD j 0 = lv'.getD j 0) true 0 (by kernel_rfl) ⟨by omega, by omega, fun j hj => by simp at hj⟩
      (LeSt.mk' (List.range 13) (by decide) rfl id (by cbv) ?_) ?_
    · conv => cbv
      exact ⟨⟨fun j _ => by cbv, trivial⟩, ⟨fun j _ => by cbv, trivial⟩, trivial⟩
    rintro z ⟨hz0, hz1, hz2⟩
    conv => cbv
    refine Br.mk (fun hd => ?_) (fun hd => ?_)
    · simp only [leafs, decide_eq_true_eq] at hd
      conv => cbv
      refine ⟨inR.mk (by omega) (by omega), nLt.mk (by simp only [leafs]; omega), inR.mk (by omega) (by omega), nLt.mk (by simp only [leafs]; omega), Br.mk (fun he => ?_) (fun he => ?_)⟩
      · simp only [leafs, Bool.not_eq_true', Bool.and_eq_false_iff, beq_eq_false_iff_ne, ne_eq] at he
        conv => cbv
        refine LeOut2.imp (HImp.fold (S := boardSh _) 0 [3, 4, 5, 6, 7] (boardL ⟨words, values, cycles, faults, time, line, odd, lk, la, ls, lv, nw, nv, nc, nf⟩ mw mv mc mf ml cw cv cc cf cl) (by decide) ?_ ⟨mw, mv, mc, mf, ml, cw, cv, cc, cf, cl, ⟨hb1, hb2, hb3, hb4, hb5, hb6, hb7, hb8, hb9⟩, rfl⟩) ?_
        · conv => cbv
          exact ⟨⟨fun j _ => by cbv, trivial⟩, trivial⟩
        refine LeOut2.imp (HImp.fold (S := boardSh _) 1 [8, 9, 10, 11, 12] (boardL ⟨words', values', cycles', faults', time', line', odd', lk', la', ls', lv', nw', nv', nc', nf'⟩ mw' mv' mc' mf' ml' cw' cv' cc' cf' cl') (by decide) ?_ ⟨mw', mv', mc', mf', ml', cw', cv', cc', cf', cl', ⟨gb1, gb2, gb3, gb4, gb5, gb6, gb7, gb8, gb9⟩, rfl⟩) ?_
        · conv => cbv
          exact ⟨⟨fun j _ => by cbv, trivial⟩, trivial⟩
        refine (LeOut.mk' [0, 1, 2] (by decide) rfl (by decide) ?_ (by cbv)).two
        conv => cbv
        rw [hr, decide_eq_false_iff_not]; rintro ⟨h1, h2, h3, h4⟩; subst h1; subst h2; subst h3; subst h4; simp at he
      · simp only [leafs, Bool.not_eq_false', Bool.and_eq_true, beq_iff_eq] at he
        obtain ⟨z1, hz'⟩ : ∃ x, z + 1 = x := ⟨_, rfl⟩
        conv => cbv
        refine ⟨z1, ⟨⟨by omega, by omega, fun j hj => ?_⟩, by omega⟩, _, (HImp.refl _).ext, LeSt.mk' (List.range 13) (by decide) rfl id ?_ ?_⟩
        · by_cases hjz : j < z.toNat
          · exact hz2 j hjz
          · rw [show j = z.toNat by omega]; exact he
        · conv => cbv
          simp only [leafs]
          rw [IntWalk.i64_in _ (by omega)]
          exact ⟨hz'.symm, trivial⟩
        · conv => cbv
          exact ⟨⟨fun j _ => by cbv, trivial⟩, ⟨fun j _ => by cbv, trivial⟩, trivial⟩
    · simp only [leafs, decide_eq_false_iff_not] at hd
      conv => cbv
      refine LeOut2.imp (HImp.fold (S := boardSh _) 0 [3, 4, 5, 6, 7] (boardL ⟨words, values, cycles, faults, time, line, odd, lk, la, ls, lv, nw, nv, nc, nf⟩ mw mv mc mf ml cw cv cc cf cl) (by decide) ?_ ⟨mw, mv, mc, mf, ml, cw, cv, cc, cf, cl, ⟨hb1, hb2, hb3, hb4, hb5, hb6, hb7, hb8, hb9⟩, rfl⟩) ?_
      · conv => cbv
        exact ⟨⟨fun j _ => by cbv, trivial⟩, trivial⟩
      refine LeOut2.imp (HImp.fold (S := boardSh _) 1 [8, 9, 10, 11, 12] (boardL ⟨words', values', cycles', faults', time', line', odd', lk', la', ls', lv', nw', nv', nc', nf'⟩ mw' mv' mc' mf' ml' cw' cv' cc' cf' cl') (by decide) ?_ ⟨mw', mv', mc', mf', ml', cw', cv', cc', cf', cl', ⟨gb1, gb2, gb3, gb4, gb5, gb6, gb7, gb8, gb9⟩, rfl⟩) ?_
      · conv => cbv
        exact ⟨⟨fun j _ => by cbv, trivial⟩, trivial⟩
      refine (LeOut.mk' [0, 1, 2] (by decide) rfl (by decide) ?_ (by cbv)).two
      conv => cbv
      have hz3 : ∀ j, j < ml → _ := fun j hj => hz2 j (by omega)
      rw [hr, decide_eq_true_eq]
      exact ⟨ext_getD hb5 (gb5.trans hc.symm) fun j hj => (hz3 j hj).1, ext_getD hb6 (gb6.trans hc.symm) fun j hj => (hz3 j hj).2.1, ext_getD hb7 (gb7.trans hc.symm) fun j hj => (hz3 j hj).2.2.1, ext_getD hb8 (gb8.trans hc.symm) fun j hj => (hz3 j hj).2.2.2⟩
end Go.Proofs.YtkljgpepogkgdaaDoor
