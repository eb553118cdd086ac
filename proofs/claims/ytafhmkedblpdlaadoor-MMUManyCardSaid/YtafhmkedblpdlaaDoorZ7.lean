/-
  Joined: PL MM PO TR MW ML VH MY MN MZ.
-/
import Derived.Test.YtafhmkedblpdlaaDoorZ6
import Derived.Test.YtafhmkedblpdlaaDoorZ5
set_option linter.unusedVariables false
set_option linter.unusedSimpArgs false
/-
  Plain: what a space's tables are, and what Map makes of them. No program in sight.
-/
section
namespace Go.Proofs.YtafhmkedblpdlaaDoor
open Go Go.Vex
set_option maxHeartbeats 4000000
/-! ### Words -/
theorem w32_splice {f : Int → Int} {a t v : Int} (ha : a % 4 = 0) (ht : t % 4 = 0) (hv : 0 ≤ v ∧ v < 4294967296) : w32f (spliceF f t (b4 v)) a = if a = t then v else w32f f a := by
  have hin : ∀ x : Int, t ≤ x → x < t + 4 → spliceF f t (b4 v) x = (b4 v).getD (x - t).toNat 0 := fun x h1 h2 => by
    rw [spliceF, if_pos ⟨h1, by simp [b4]; omega⟩]
  have hout : ∀ x : Int, (x < t ∨ t + 4 ≤ x) → spliceF f t (b4 v) x = f x := fun x h => by
    rw [spliceF, if_neg (by simp [b4]; omega)]
  unfold w32f
  by_cases h : a = t
  · subst h
    rw [if_pos rfl, hin a (by omega) (by omega), hin (a + 1) (by omega) (by omega), hin (a + 2) (by omega) (by omega), hin (a + 3) (by omega) (by omega)]
    rw [show (a - a).toNat = 0 by omega, show (a + 1 - a).toNat = 1 by omega, show (a + 2 - a).toNat = 2 by omega, show (a + 3 - a).toNat = 3 by omega]
    show v % 256 + 256 * (v / 256 % 256) + 65536 * (v / 65536 % 256) + 16777216 * (v / 16777216 % 256) = v
    omega
  · rw [if_neg h, hout a (by omega), hout (a + 1) (by omega), hout (a + 2) (by omega), hout (a + 3) (by omega)]
theorem w32_store {f : Int → Int} {n a t v : Int} (ha : a % 4 = 0) (ht : wordErr n t = 0) (hv : 0 ≤ v ∧ v < 4294967296) : w32f (storeF f n t v) a = if a = t then v else w32f f a := by
  rw [storeF, if_pos ht]
  refine w32_splice ha ?_ hv
  unfold wordErr at ht; split at ht <;> omega
theorem w32_zero {f : Int → Int} {a t : Int} (ha : a % 4 = 0) (ht : t % 4096 = 0) : w32f (zeroF f t) a = if t ≤ a ∧ a < t + 4096 then 0 else w32f f a := by
  unfold w32f zeroF
  by_cases h : t ≤ a ∧ a < t + 4096
  · rw [if_pos h, if_pos h, if_pos (by omega), if_pos (by omega), if_pos (by omega)]; decide
  · rw [if_neg h, if_neg h, if_neg (by omega), if_neg (by omega), if_neg (by omega)]
/-- A page of a memory. -/
def Pg (n t : Int) : Prop := 0 ≤ t ∧ t % 4096 = 0 ∧ t + 4096 ≤ 4096 * n
theorem Pg.err {n t i : Int} (h : Pg n t) (hi : 0 ≤ i ∧ i < 1024) : wordErr n (t + 4 * i) = 0 := by
  obtain ⟨h0, h1, h2⟩ := h
  rw [wordErr, if_neg (by omega), if_neg (by omega)]
theorem Pg.ok {n t i : Int} (hn : n ≤ 4096) (h : Pg n t) (hi : 0 ≤ i ∧ i < 1024) : wOk n t i = true := by
  have := h.err hi
  obtain ⟨h0, h1, h2⟩ := h
  rw [wOk, decide_eq_true_eq]; exact ⟨by omega, this⟩
theorem Pg.wW {n t i : Int} {f : Int → Int} (hn : n ≤ 4096) (h : Pg n t) (hi : 0 ≤ i ∧ i < 1024) : wW n f t i = w32f f (t + 4 * i) := by
  rw [Proofs.YtafhmkedblpdlaaDoor.wW, if_pos (h.ok hn hi)]
/-! ### Entries -/
theorem permOk_bd {p : Int} (h : permOk p = true) : 1 ≤ p ∧ p ≤ 7 := by
  have := permOk_iff.1 h; omega
theorem encE1 {p fr : Int} : encE 1 p fr = 0 ↔ permOk p = true ∧ fr ≤ 4095 := by
  rw [encE, if_neg (by decide), if_pos rfl]
  by_cases h : permOk p = true
  · rw [if_pos h]; by_cases h2 : 4095 < fr <;> simp [h, h2] <;> omega
  · rw [if_neg h]; simp [h]
theorem encW1 {p fr : Int} (h : encE 1 p fr = 0) : encW 1 p fr = 4096 * fr + 2 * p + 1 := by
  rw [encW, if_neg (by simp [h]), if_neg (by decide), if_pos rfl]
theorem dec_page {p fr : Int} (h : encE 1 p fr = 0) (hf : 0 ≤ fr) : decE (encW 1 p fr) = 0 ∧ decK (encW 1 p fr) = 1 ∧ decP (encW 1 p fr) = p ∧ decF (encW 1 p fr) = fr := by
  have h2 := encE1.1 h
  have hp := permOk_bd h2.1
  have e1 : decE (encW 1 p fr) = 0 := by
    rw [encW1 h, decE, if_neg (by omega), if_neg (by omega), if_neg (by omega), if_neg (by omega)]
    rw [show (4096 * fr + 2 * p + 1) % 16 / 2 = p by omega, show (4096 * fr + 2 * p + 1) / 4096 = fr by omega]; exact h
  refine ⟨e1, ?_, ?_, ?_⟩
  · rw [decK, if_neg (by rw [encW1 h]; omega), if_neg (by simp [e1]), encW1 h, if_neg (by omega)]
  · rw [decP, if_neg (by simp [e1]), encW1 h]; omega
  · rw [decF, if_neg (by simp [e1]), encW1 h]; omega
theorem dec_tab {n t : Int} (hn : n ≤ 4096) (h : Pg n t) : decE (t + 17) = 0 ∧ decK (t + 17) = 2 ∧ decF (t + 17) = t / 4096 := by
  obtain ⟨h0, h1, h2⟩ := h
  have e1 : decE (t + 17) = 0 := by
    rw [decE, if_neg (by omega), if_neg (by omega), if_neg (by omega), if_pos (by omega)]
    rw [show (t + 17) % 16 / 2 = 0 by omega, encE, if_neg (by decide), if_neg (by decide), if_pos rfl, if_neg (by simp), if_neg (by omega)]
  refine ⟨e1, ?_, ?_⟩
  · rw [decK, if_neg (by omega), if_neg (by simp [e1]), if_pos (by omega)]
  · rw [decF, if_neg (by simp [e1])]; omega
theorem encW2 {n t : Int} (hn : n ≤ 4096) (h : Pg n t) : encW 2 0 (t / 4096) = t + 17 := by
  obtain ⟨h0, h1, h2⟩ := h
  rw [encW, if_neg (by rw [encE, if_neg (by decide), if_neg (by decide), if_pos rfl, if_neg (by simp), if_neg (by omega)]; simp), if_neg (by decide), if_neg (by decide)]; omega
/-! ### A space: its tables, and what is mapped in it -/
structure SpInv (n : Int) (f : Int → Int) (R : Int) (tb : Int → Option Int) (M : Int → Int → Int) : Prop where
  pr : Pg n R
  rw' : ∀ i, 0 ≤ i → i < 1024 → w32f f (R + 4 * i) = match tb i with
    | none => 0
    | some t => t + 17
  pt : ∀ i t, tb i = some t → Pg n t ∧ t ≠ R
  inj : ∀ i j t, tb i = some t → tb j = some t → i = j
  tw : ∀ i t j, tb i = some t → 0 ≤ j → j < 1024 → w32f f (t + 4 * j) = M i j
  mz : ∀ i j, tb i = none → M i j = 0
  me : ∀ i j, M i j = 0 ∨ ∃ p fr, encE 1 p fr = 0 ∧ 0 ≤ fr ∧ M i j = encW 1 p fr
/-- No table yet. -/
theorem SpInv.new {n R : Int} {f : Int → Int} (h : Pg n R) (hz : ∀ i, 0 ≤ i → i < 1024 → w32f f (R + 4 * i) = 0) : SpInv n f R (fun _ => none) (fun _ _ => 0) :=
  ⟨h, hz, fun i t h => (by cases h), fun i j t h => (by cases h), fun i t j h => (by cases h), fun _ _ _ => rfl, fun _ _ => .inl rfl⟩
/-- What is written elsewhere does not matter. -/
theorem SpInv.elsewhere {n R : Int} {f g : Int → Int} {tb : Int → Option Int} {M : Int → Int → Int} (h : SpInv n f R tb M) (hR : ∀ j, 0 ≤ j → j < 1024 → w32f g (R + 4 * j) = w32f f (R + 4 * j))
    (ht : ∀ i t j, tb i = some t → 0 ≤ j → j < 1024 → w32f g (t + 4 * j) = w32f f (t + 4 * j)) : SpInv n g R tb M :=
  ⟨h.pr, fun i h0 h1 => by rw [hR i h0 h1]; exact h.rw' i h0 h1, h.pt, h.inj, fun i t j hi h0 h1 => by rw [ht i t j hi h0 h1]; exact h.tw i t j hi h0 h1, h.mz, h.me⟩
def setT (tb : Int → Option Int) (x t : Int) (i : Int) : Option Int := if i = x then some t else tb i
def setM (M : Int → Int → Int) (x : Int × Int) (w : Int) (i j : Int) : Int := if i = x.1 ∧ j = x.2 then w else M i j
theorem pg_word {n t u i j : Int} (ht : t % 4096 = 0) (hu : u % 4096 = 0) (hi : 0 ≤ i ∧ i < 1024) (hj : 0 ≤ j ∧ j < 1024) : t + 4 * i = u + 4 * j ↔ t = u ∧ i = j := by omega
/-- A table more. -/
theorem SpInv.table {n R : Int} {f : Int → Int} {tb : Int → Option Int} {M : Int → Int → Int} (hn : n ≤ 4096) (h : SpInv n f R tb M) {x t : Int} (hx : 0 ≤ x ∧ x < 1024) (hnone : tb x = none) (ht : Pg n t) (hR : t ≠ R) (hT : ∀ i u, tb i = some u → u ≠ t) :
    SpInv n (layF n (zeroF f t) R x 2 0 (t / 4096)) R (setT tb x t) M := by
  obtain ⟨r0, r1, r2⟩ := h.pr
  have ht' := ht
  obtain ⟨t0, t1, t2⟩ := ht
  have hw : ∀ a, a % 4 = 0 → w32f (layF n (zeroF f t) R x 2 0 (t / 4096)) a = if a = R + 4 * x then t + 17 else if t ≤ a ∧ a < t + 4096 then 0 else w32f f a := fun a ha => by
    rw [layF, wrap_u32, show (R + 4 * x) % 4294967296 = R + 4 * x by omega, encW2 hn ht', w32_store ha (h.pr.err hx) (by omega), w32_zero ha t1]
  refine ⟨h.pr, fun i h0 h1 => ?_, fun i u hi => ?_, fun i j u hi hj => ?_, fun i u j hi h0 h1 => ?_, fun i j hi => ?_, h.me⟩
  · rw [hw _ (by omega)]
    by_cases e : i = x
    · rw [if_pos (by omega), setT, if_pos e]
    · rw [if_neg (by omega), if_neg (by omega), setT, if_neg e]; exact h.rw' i h0 h1
  · unfold setT at hi
    split at hi
    · cases hi; exact ⟨⟨t0, t1, t2⟩, hR⟩
    · exact h.pt i u hi
  · unfold setT at hi hj
    split at hi <;> split at hj
    · omega
    · cases hi; exact absurd rfl (hT j _ hj)
    · cases hj; exact absurd rfl (hT i _ hi)
    · exact h.inj i j u hi hj
  · unfold setT at hi
    split at hi
    · cases hi
      rename_i e
      rw [hw _ (by omega), if_neg (by omega), if_pos (by omega), e, h.mz x j hnone]
    · obtain ⟨⟨u0, u1, u2⟩, hu⟩ := h.pt i u hi
      have hut := hT i u hi
      rw [hw _ (by omega), if_neg (by omega), if_neg (by omega)]
      exact h.tw i u j hi h0 h1
  · unfold setT at hi
    split at hi
    · cases hi
    · exact h.mz i j hi
/-- A page more. -/
theorem SpInv.page {n R : Int} {f : Int → Int} {tb : Int → Option Int} {M : Int → Int → Int} (hn : n ≤ 4096) (h : SpInv n f R tb M) {x : Int × Int} {t p fr : Int} (hx : 0 ≤ x.2 ∧ x.2 < 1024) (ht : tb x.1 = some t) (he : encE 1 p fr = 0) (hf : 0 ≤ fr) :
    SpInv n (layF n f t x.2 1 p fr) R tb (setM M x (encW 1 p fr)) := by
  obtain ⟨r0, r1, r2⟩ := h.pr
  obtain ⟨ht', htR⟩ := h.pt _ _ ht
  have hpt := ht'
  obtain ⟨t0, t1, t2⟩ := ht'
  have h2 := encE1.1 he
  have hp := permOk_bd h2.1
  have hw : ∀ a, a % 4 = 0 → w32f (layF n f t x.2 1 p fr) a = if a = t + 4 * x.2 then encW 1 p fr else w32f f a := fun a ha => by
    rw [layF, wrap_u32, show (t + 4 * x.2) % 4294967296 = t + 4 * x.2 by omega, w32_store ha (hpt.err hx) (by rw [encW1 he]; omega)]
  refine ⟨h.pr, fun i h0 h1 => ?_, h.pt, h.inj, fun i u j hi h0 h1 => ?_, fun i j hi => ?_, fun i j => ?_⟩
  · rw [hw _ (by omega), if_neg (by omega)]; exact h.rw' i h0 h1
  · obtain ⟨⟨u0, u1, u2⟩, hu⟩ := h.pt i u hi
    rw [hw _ (by omega), setM]
    by_cases e : i = x.1 ∧ j = x.2
    · rw [if_pos e]
      have : u = t := by rw [e.1, ht] at hi; cases hi; rfl
      rw [if_pos (by omega)]
    · rw [if_neg e, if_neg (fun e2 => ?_)]
      · exact h.tw i u j hi h0 h1
      · have e3 := (pg_word u1 t1 ⟨h0, h1⟩ hx (n := n)).1 e2
        refine e ⟨h.inj i x.1 t (by rw [hi, e3.1]) ht, e3.2⟩
  · rw [setM, if_neg (fun e => by rw [e.1, ht] at hi; cases hi)]; exact h.mz i j hi
  · rw [setM]; split
    · exact .inr ⟨p, fr, he, hf, rfl⟩
    · exact h.me i j
/-! ### The table of a key -/
/-- What a map of tables tells. -/
def tv {α : Type} [DecidableEq α] (L : List (α × Value)) (x : α) : Option Value := (fA x L 0).map (·.2)
theorem fA_sh {α : Type} [DecidableEq α] {n : α} : ∀ {L : List (α × Value)} (i j : Nat), (fA n L i).map (·.2) = (fA n L j).map (·.2)
  | [], i, j => rfl
  | (a, v) :: r, i, j => by
    unfold fA
    split
    · rfl
    · exact fA_sh (i + 1) (j + 1)
theorem tv_append {α : Type} [DecidableEq α] {m n : α} {v : Value} : ∀ {L : List (α × Value)}, m ≠ n → tv (L ++ [(n, v)]) m = tv L m
  | [], h => by simp [tv, fA, Ne.symm h]
  | (a, u) :: r, h => by
    have ih := tv_append (L := r) (v := v) h
    unfold tv at ih ⊢
    rw [List.cons_append]
    unfold fA
    split
    · rfl
    · exact (fA_sh _ 0).trans (ih.trans (fA_sh 0 _))
theorem tv_set {α : Type} [DecidableEq α] {m n : α} {v : Value} : ∀ {L : List (α × Value)} {i : Nat} {u : Value}, m ≠ n → L[i]? = some (n, u) → tv (L.set i (n, v)) m = tv L m
  | [], i, u, h, hi => by simp at hi
  | (a, w) :: r, 0, u, h, hi => by
    simp only [List.getElem?_cons_zero, Option.some.injEq, Prod.mk.injEq] at hi
    obtain ⟨rfl, rfl⟩ := hi
    unfold tv
    rw [List.set_cons_zero]
    unfold fA
    rw [if_neg (Ne.symm h), if_neg (Ne.symm h)]
  | (a, w) :: r, i + 1, u, h, hi => by
    have ih := tv_set (L := r) (i := i) (v := v) h (by simpa using hi)
    unfold tv at ih ⊢
    rw [List.set_cons_succ]
    unfold fA
    split
    · rfl
    · exact (fA_sh _ 0).trans (ih.trans (fA_sh 0 _))
theorem tv_put {α : Type} [DecidableEq α] {m n : α} {v : Value} {L : List (α × Value)} : tv (putA n v L) m = if m = n then some v else tv L m := by
  by_cases h : m = n
  · subst h
    rw [if_pos rfl, tv]
    obtain ⟨j, hj⟩ := fA_putA (n := m) (v := v) (L := L)
    rw [hj]; rfl
  · rw [if_neg h]
    unfold putA
    cases hf : fA n L 0 with
    | none => exact tv_append h
    | some y =>
      obtain ⟨j, u⟩ := y
      exact tv_set h (fA_some hf).2
theorem tabOf_tv {L : List (Int × Value)} {x t : Int} (h : tv L x = some (.int .u32 t)) : tabOf L x = t := by
  unfold tv at h
  cases hf : fA x L 0 with
  | none => rw [hf] at h; cases h
  | some y =>
    obtain ⟨j, v⟩ := y
    rw [hf] at h
    simp only [Option.map_some, Option.some.injEq] at h
    subst h
    rw [tabOf, hf]
/-! ### The first pass -/
/-- One page that is free. -/
theorem mStep_free {n R : Int} {f : Int → Int} {tb : Int → Option Int} {M : Int → Int → Int} (hn : n ≤ 4096) (h : SpInv n f R tb M) {x : Int × Int} (h1 : 0 ≤ x.1 ∧ x.1 < 1024) (h2 : 0 ≤ x.2 ∧ x.2 < 1024) (hM : M x.1 x.2 = 0) {s : PS} (hs : x ∉ s.seen) :
    mStep n f R s x = some (match tb x.1 with
      | none => ⟨s.seen ++ [x], s.tabs, if x.1 ∈ s.wanted then s.wanted else s.wanted ++ [x.1]⟩
      | some t => ⟨s.seen ++ [x], putA x.1 (.int .u32 t) s.tabs, s.wanted⟩) := by
  have hw := h.rw' x.1 h1.1 h1.2
  rw [← h.pr.wW hn h1] at hw
  rw [mStep, if_neg hs]
  simp only
  cases ht : tb x.1 with
  | none =>
    rw [ht] at hw
    simp only at hw
    have d : decE 0 = 0 ∧ decK 0 = 0 := by decide
    rw [hw, if_neg (by rw [h.pr.ok hn h1, d.1, d.2]; simp), if_pos d.2]
  | some t =>
    rw [ht] at hw
    simp only at hw
    obtain ⟨hp, hR⟩ := h.pt _ _ ht
    obtain ⟨d1, d2, d3⟩ := dec_tab hn hp
    obtain ⟨p0, p1, p2⟩ := hp
    rw [hw, if_neg (by rw [h.pr.ok hn h1, d1, d2, d3]; simp; omega), if_neg (by rw [d2]; decide), d3, show t / 4096 * 4096 = t by omega]
    rw [(h.pt _ _ ht).1.wW hn h2, h.tw _ _ _ ht h2.1 h2.2, hM, if_neg (by simp)]
/-- What holds in the first pass, at any of its pages. -/
structure FstInv (tb : Int → Option Int) (l : List (Int × Int)) (s : PS) : Prop where
  seen : s.seen = l
  tabs : ∀ x ∈ l, ∀ t, tb x.1 = some t → tv s.tabs x.1 = some (.int .u32 t)
  want : ∀ i, i ∈ s.wanted ↔ tb i = none ∧ ∃ x ∈ l, x.1 = i
  nd : s.wanted.Nodup
theorem first_pass {n R : Int} {f : Int → Int} {tb : Int → Option Int} {M : Int → Int → Int} (hn : n ≤ 4096) (h : SpInv n f R tb M) : ∀ (l l0 : List (Int × Int)) (s : PS), FstInv tb l0 s → (l0 ++ l).Nodup → (∀ x ∈ l, 0 ≤ x.1 ∧ x.1 < 1024 ∧ 0 ≤ x.2 ∧ x.2 < 1024 ∧ M x.1 x.2 = 0) →
    ∃ s', l.foldlM (mStep n f R) s = some s' ∧ FstInv tb (l0 ++ l) s'
  | [], l0, s, hi, _, _ => ⟨s, rfl, by simpa using hi⟩
  | x :: r, l0, s, hi, hd, hx => by
    obtain ⟨x0, x1, x2, x3, x4⟩ := hx x (by simp)
    have hns : x ∉ s.seen := by
      rw [hi.seen]; intro hm
      rw [List.nodup_append] at hd
      exact hd.2.2 x hm x (by simp) rfl
    have hst := mStep_free hn h ⟨x0, x1⟩ ⟨x2, x3⟩ x4 hns
    rw [List.foldlM_cons, hst]
    have hd2 : ((l0 ++ [x]) ++ r).Nodup := by simpa using hd
    have key : ∀ s1, FstInv tb (l0 ++ [x]) s1 → ∃ s', r.foldlM (mStep n f R) s1 = some s' ∧ FstInv tb (l0 ++ x :: r) s' := fun s1 h1 => by
      have := first_pass hn h r (l0 ++ [x]) s1 h1 hd2 (fun y hy => hx y (List.mem_cons_of_mem _ hy))
      simpa using this
    cases ht : tb x.1 with
    | none =>
      refine key _ ⟨by simp [hi.seen], fun y hy t hy2 => ?_, fun i => ?_, ?_⟩
      · rcases List.mem_append.1 hy with hy | hy
        · exact hi.tabs y hy t hy2
        · simp only [List.mem_singleton] at hy; subst hy; rw [ht] at hy2; cases hy2
      · have hw := hi.want i
        simp only
        split
        · rename_i hm
          rw [hw]
          refine ⟨fun ⟨a, y, hy, hy2⟩ => ⟨a, y, List.mem_append_left _ hy, hy2⟩, fun ⟨a, y, hy, hy2⟩ => ⟨a, ?_⟩⟩
          rcases List.mem_append.1 hy with hy | hy
          · exact ⟨y, hy, hy2⟩
          · simp only [List.mem_singleton] at hy; subst hy; subst hy2; exact ((hi.want y.1).1 hm).2
        · rw [List.mem_append, hw]
          constructor
          · rintro (⟨a, y, hy, hy2⟩ | hy)
            · exact ⟨a, y, List.mem_append_left _ hy, hy2⟩
            · simp only [List.mem_singleton] at hy; subst hy; exact ⟨ht, x, by simp, rfl⟩
          · rintro ⟨a, y, hy, hy2⟩
            rcases List.mem_append.1 hy with hy | hy
            · exact .inl ⟨a, y, hy, hy2⟩
            · simp only [List.mem_singleton] at hy; subst hy; right; simp [hy2]
      · simp only
        split
        · exact hi.nd
        · rename_i hm
          rw [List.nodup_append]
          refine ⟨hi.nd, by simp, fun a ha b hb => ?_⟩
          simp only [List.mem_singleton] at hb
          subst hb; rintro rfl; exact hm ha
    | some t =>
      refine key _ ⟨by simp [hi.seen], fun y hy u hy2 => ?_, fun i => ?_, hi.nd⟩
      · simp only
        rw [tv_put]
        by_cases e : y.1 = x.1
        · rw [if_pos e]; rw [e, ht] at hy2; cases hy2; rfl
        · rw [if_neg e]
          rcases List.mem_append.1 hy with hy | hy
          · exact hi.tabs y hy u hy2
          · simp only [List.mem_singleton] at hy; subst hy; exact absurd rfl e
      · simp only
        rw [hi.want i]
        refine ⟨fun ⟨a, y, hy, hy2⟩ => ⟨a, y, List.mem_append_left _ hy, hy2⟩, fun ⟨a, y, hy, hy2⟩ => ⟨a, ?_⟩⟩
        rcases List.mem_append.1 hy with hy | hy
        · exact ⟨y, hy, hy2⟩
        · simp only [List.mem_singleton] at hy; subst hy; subst hy2; rw [ht] at a; cases a
theorem first_ok {n R : Int} {f : Int → Int} {tb : Int → Option Int} {M : Int → Int → Int} (hn : n ≤ 4096) (h : SpInv n f R tb M) (l : List (Int × Int)) (hd : l.Nodup) (hx : ∀ x ∈ l, 0 ≤ x.1 ∧ x.1 < 1024 ∧ 0 ≤ x.2 ∧ x.2 < 1024 ∧ M x.1 x.2 = 0) :
    ∃ s', l.foldlM (mStep n f R) ⟨[], [], []⟩ = some s' ∧ FstInv tb l s' :=
  first_pass hn h l [] ⟨[], [], []⟩ ⟨rfl, fun x hx => by simp at hx, fun i => by simp, by simp⟩ (by simpa using hd) hx
/-! ### The second -/
/-- Tables from the arena: all of the arena's pages from `taken` on are none of the space's. -/
structure TkInv (n base R : Int) (tb : Int → Option Int) (M : Int → Int → Int) (s : MS) (done : List Int) : Prop where
  sp : SpInv n s.f R tb M
  dn : ∀ i ∈ done, ∃ t, tb i = some t ∧ tv s.tabs i = some (.int .u32 t)
  fr : ∀ i t, tb i = some t → t < base + 4096 * s.taken
  rf : R < base + 4096 * s.taken
theorem second_pass {n base R : Int} {M : Int → Int → Int} (hn : n ≤ 4096) (hb : 0 ≤ base ∧ base % 4096 = 0) : ∀ (l : List Int) (tb : Int → Option Int) (s : MS) (done : List Int), TkInv n base R tb M s done → l.Nodup → (∀ i ∈ l, 0 ≤ i ∧ i < 1024 ∧ tb i = none) → 0 ≤ s.taken → base + 4096 * (s.taken + l.length) ≤ 4096 * n →
    ∃ tb', TkInv n base R tb' M (l.foldl (tkStep n base R) s) (done ++ l) ∧ (l.foldl (tkStep n base R) s).taken = s.taken + l.length ∧ (∀ i t, tb i = some t → tb' i = some t) ∧ (∀ i, tb' i = none ↔ tb i = none ∧ i ∉ l) ∧ (∀ i t, tb' i = some t → tb i = some t ∨ base + 4096 * s.taken ≤ t)
  | [], tb, s, done, h, _, _, _, _ => ⟨tb, by simpa using h, by simp, fun _ _ h => h, fun i => by simp, fun _ _ h => .inl h⟩
  | x :: r, tb, s, done, h, hd, hx, h0, hs => by
    obtain ⟨x0, x1, x2⟩ := hx x (by simp)
    rw [List.nodup_cons] at hd
    simp only [List.length_cons, Int.natCast_add, Int.natCast_one] at hs
    obtain ⟨t, ht⟩ : ∃ t, t = base + 4096 * s.taken := ⟨_, rfl⟩
    have hlt : ∀ i u, tb i = some u → u < t := fun i u hu => by rw [ht]; exact h.fr i u hu
    have hRt : R < t := by rw [ht]; exact h.rf
    have hsp := h.sp.table hn ⟨x0, x1⟩ x2 (t := t) ⟨by omega, by omega, by omega⟩ (by omega) (fun i u hu => by have := hlt i u hu; omega)
    have hs1 : tkStep n base R s x = ⟨layF n (zeroF s.f t) R x 2 0 (t / 4096), s.taken + 1, putA x (.int .u32 t) s.tabs⟩ := by rw [tkStep, ← ht]
    have hinv : TkInv n base R (setT tb x t) M (tkStep n base R s x) (done ++ [x]) := by
      rw [hs1]
      refine ⟨hsp, fun i hi => ?_, fun i u hu => ?_, by simp only; omega⟩
      · simp only
        rw [tv_put, setT]
        by_cases e : i = x
        · rw [if_pos e, if_pos e]; exact ⟨t, rfl, rfl⟩
        · rw [if_neg e, if_neg e]
          rcases List.mem_append.1 hi with hi | hi
          · exact h.dn i hi
          · simp only [List.mem_singleton] at hi; exact absurd hi e
      · simp only
        unfold setT at hu
        split at hu
        · cases hu; omega
        · have := hlt i u hu; omega
    have htk : (tkStep n base R s x).taken = s.taken + 1 := by rw [hs1]
    obtain ⟨tb', g1, g2, g3, g4, g5⟩ := second_pass hn hb r (setT tb x t) (tkStep n base R s x) (done ++ [x]) hinv hd.2 (fun i hi => by
      obtain ⟨a, b, c⟩ := hx i (List.mem_cons_of_mem _ hi)
      refine ⟨a, b, ?_⟩
      rw [setT, if_neg (fun e : i = x => hd.1 (e ▸ hi))]; exact c) (by omega) (by rw [htk]; omega)
    refine ⟨tb', by simpa using g1, ?_, fun i u hu => ?_, fun i => ?_, fun i u hu => ?_⟩
    · rw [List.foldl_cons, g2, htk, List.length_cons]; omega
    · refine g3 i u ?_
      rw [setT, if_neg (fun e => by rw [e, x2] at hu; cases hu)]; exact hu
    · rw [g4 i, setT]
      by_cases e : i = x
      · rw [if_pos e]; simp [e]
      · rw [if_neg e]; simp [e]
    · rcases g5 i u hu with hu | hu
      · unfold setT at hu
        split at hu
        · cases hu; right; omega
        · exact .inl hu
      · right; rw [htk] at hu; omega
/-! ### The third -/
def setA (M : Int → Int → Int) (l : List PgE) : Int → Int → Int := l.foldl (fun M x => setM M x.1 (encW 1 x.2.1 x.2.2)) M
theorem third_pass {n R : Int} {tb : Int → Option Int} (hn : n ≤ 4096) {tabs : List (Int × Value)} : ∀ (l : List PgE) (f : Int → Int) (M : Int → Int → Int), SpInv n f R tb M →
    (∀ x ∈ l, 0 ≤ x.1.2 ∧ x.1.2 < 1024 ∧ encE 1 x.2.1 x.2.2 = 0 ∧ 0 ≤ x.2.2 ∧ ∃ t, tb x.1.1 = some t ∧ tabOf tabs x.1.1 = t) → SpInv n (l.foldl (lyStep n tabs) f) R tb (setA M l)
  | [], f, M, h, _ => h
  | x :: r, f, M, h, hx => by
    obtain ⟨a, b, c, d, t, e1, e2⟩ := hx x (by simp)
    rw [List.foldl_cons, setA, List.foldl_cons]
    refine third_pass hn r _ _ ?_ fun y hy => hx y (List.mem_cons_of_mem _ hy)
    rw [lyStep, e2]
    exact h.page hn ⟨a, b⟩ e1 c d
theorem setA_out {i j : Int} : ∀ (l : List PgE) (M : Int → Int → Int), (∀ x ∈ l, x.1 ≠ (i, j)) → setA M l i j = M i j
  | [], M, _ => rfl
  | x :: r, M, h => by
    rw [setA, List.foldl_cons]
    show setA _ r i j = _
    rw [setA_out r _ fun y hy => h y (List.mem_cons_of_mem _ hy), setM, if_neg (fun e => h x (by simp) (by rw [e.1, e.2]))]
theorem setA_in {x : PgE} : ∀ (l : List PgE) (M : Int → Int → Int), (l.map (·.1)).Nodup → x ∈ l → setA M l x.1.1 x.1.2 = encW 1 x.2.1 x.2.2
  | [], M, _, h => by simp at h
  | y :: r, M, hd, h => by
    rw [List.map_cons, List.nodup_cons] at hd
    rw [setA, List.foldl_cons]
    show setA _ r _ _ = _
    rcases List.mem_cons.1 h with rfl | h
    · rw [setA_out r _ fun z hz e => hd.1 (List.mem_map.2 ⟨z, hz, e⟩), setM, if_pos ⟨rfl, rfl⟩]
    · exact setA_in r _ hd.2 h
/-! ### What is left as it was -/
theorem lay_at {n t x k p fr : Int} {f : Int → Int} (ht : Pg n t) (hn : n ≤ 4096) (hx : 0 ≤ x ∧ x < 1024) (hw : 0 ≤ encW k p fr ∧ encW k p fr < 4294967296) {a : Int} (ha : a % 4 = 0) : w32f (layF n f t x k p fr) a = if a = t + 4 * x then encW k p fr else w32f f a := by
  have h2 := ht
  obtain ⟨t0, t1, t2⟩ := h2
  rw [layF, wrap_u32, show (t + 4 * x) % 4294967296 = t + 4 * x by omega, w32_store ha (ht.err hx) hw]
theorem tk_frame {n base R : Int} (hn : n ≤ 4096) (hb : 0 ≤ base ∧ base % 4096 = 0) (hR : Pg n R) {a : Int} (ha : a % 4 = 0) (hoR : a < R ∨ R + 4096 ≤ a) : ∀ (l : List Int) (s : MS), (∀ i ∈ l, 0 ≤ i ∧ i < 1024) → 0 ≤ s.taken → base + 4096 * (s.taken + l.length) ≤ 4096 * n →
    (a < base + 4096 * s.taken ∨ base + 4096 * (s.taken + l.length) ≤ a) → w32f (l.foldl (tkStep n base R) s).f a = w32f s.f a
  | [], s, _, _, _, _ => rfl
  | x :: r, s, hx, h0, hs, ho => by
    have x1 := hx x (by simp)
    simp only [List.length_cons, Int.natCast_add, Int.natCast_one] at hs ho
    have htk : (tkStep n base R s x).taken = s.taken + 1 := rfl
    rw [List.foldl_cons, tk_frame hn hb hR ha hoR r _ (fun i hi => hx i (List.mem_cons_of_mem _ hi)) (by rw [htk]; omega) (by rw [htk]; omega) (by rw [htk]; omega)]
    have hpt : Pg n (base + 4096 * s.taken) := ⟨by omega, by omega, by omega⟩
    show w32f (layF n (zeroF s.f (base + 4096 * s.taken)) R x 2 0 ((base + 4096 * s.taken) / 4096)) a = _
    rw [lay_at hR hn x1 (by rw [encW2 hn hpt]; omega) ha, if_neg (by omega), w32_zero ha (by omega), if_neg (by omega)]
theorem ly_frame {n : Int} (hn : n ≤ 4096) {tabs : List (Int × Value)} {a : Int} (ha : a % 4 = 0) : ∀ (l : List PgE) (f : Int → Int), (∀ x ∈ l, Pg n (tabOf tabs x.1.1) ∧ 0 ≤ x.1.2 ∧ x.1.2 < 1024 ∧ encE 1 x.2.1 x.2.2 = 0 ∧ 0 ≤ x.2.2 ∧ (a < tabOf tabs x.1.1 ∨ tabOf tabs x.1.1 + 4096 ≤ a)) →
    w32f (l.foldl (lyStep n tabs) f) a = w32f f a
  | [], f, _ => rfl
  | x :: r, f, h => by
    obtain ⟨h1, h2, h3, h4, h5, h6⟩ := h x (by simp)
    have hp := permOk_bd (encE1.1 h4).1
    have hf := (encE1.1 h4).2
    rw [List.foldl_cons, ly_frame hn ha r _ fun y hy => h y (List.mem_cons_of_mem _ hy), lyStep, lay_at h1 hn ⟨h2, h3⟩ (by rw [encW1 h4]; omega) ha, if_neg (by omega)]
/-! ### Map -/
theorem allE_pgs (L : Rgs) (m : Nat) : (allE L m).map (·.1) = allPgs L m := by
  simp only [allE, allPgs, List.map_flatMap, rgE, pgsOf, List.map_map, Function.comp_def, pgE]
/-- Who may be mapped: where there is room. -/
theorem map_ok {n base pages taken R : Int} {sealed : Bool} {f : Int → Int} {L : Rgs} {m : Nat} {tb : Int → Option Int} {M : Int → Int → Int} (h : SpInv n f R tb M) (ha : ArOk n base pages taken)
    (hfr : ∀ i t, tb i = some t → t < base + 4096 * taken) (hR : R < base + 4096 * taken) (hgood : (List.range m).any (badR L) = false) (hd : (allPgs L m).Nodup) (hx : ∀ x ∈ allPgs L m, 0 ≤ x.1 ∧ x.1 < 1024 ∧ 0 ≤ x.2 ∧ x.2 < 1024 ∧ M x.1 x.2 = 0)
    (hE : ∀ x ∈ allE L m, encE 1 x.2.1 x.2.2 = 0 ∧ 0 ≤ x.2.2) (hroom : ∀ ws : List Int, ws.Nodup → (∀ i, i ∈ ws ↔ tb i = none ∧ ∃ x ∈ allPgs L m, x.1 = i) → (ws.length : Int) ≤ pages - taken ∧ (ws.length ≠ 0 → sealed = false)) :
    ∃ (f' : Int → Int) (tb' : Int → Option Int) (ws : List Int), mapP n base pages taken R sealed f L m = (0, f', taken + (ws.length : Int)) ∧ SpInv n f' R tb' (setA M (allE L m)) ∧ ws.Nodup ∧ (∀ i, i ∈ ws ↔ tb i = none ∧ ∃ x ∈ allPgs L m, x.1 = i) ∧
      (∀ i t, tb' i = some t → t < base + 4096 * (taken + ws.length)) ∧ (∀ i t, tb i = some t → tb' i = some t) ∧ (∀ i, tb' i = none ↔ tb i = none ∧ i ∉ ws) ∧ (∀ i t, tb' i = some t → tb i = some t ∨ base + 4096 * taken ≤ t) ∧
      (∀ a, a % 4 = 0 → (a < R ∨ R + 4096 ≤ a) → (∀ i t, tb' i = some t → a < t ∨ t + 4096 ≤ a) → (a < base + 4096 * taken ∨ base + 4096 * (taken + ws.length) ≤ a) → w32f f' a = w32f f a) := by
  have hn := ha.hn
  obtain ⟨ps, hps, hf⟩ := first_ok hn.2 h (allPgs L m) hd hx
  obtain ⟨hr1, hr2⟩ := hroom ps.wanted hf.nd hf.want
  have hbd : ∀ i ∈ ps.wanted, 0 ≤ i ∧ i < 1024 ∧ tb i = none := fun i hi => by
    obtain ⟨a, x, hx1, rfl⟩ := (hf.want i).1 hi
    exact ⟨(hx x hx1).1, (hx x hx1).2.1, a⟩
  have hs := ha.hs
  have hb0 := ha.hb0
  have hb := ha.hb
  obtain ⟨tb', g1, g2, g3, g4, g5⟩ := second_pass hn.2 ⟨ha.hb, ha.hb0⟩ ps.wanted tb ⟨f, taken, ps.tabs⟩ ((allPgs L m).map (·.1) |>.filter fun i => (tb i).isSome) (M := M) (R := R)
    ⟨h, fun i hi => by
      rw [List.mem_filter, List.mem_map] at hi
      obtain ⟨⟨x, hx1, rfl⟩, hi2⟩ := hi
      obtain ⟨t, ht⟩ := Option.isSome_iff_exists.1 hi2
      exact ⟨t, ht, hf.tabs x hx1 t ht⟩, hfr, hR⟩ hf.nd hbd ha.ht.1 (by simp only; omega)
  simp only at g2 g5
  have hxE : ∀ x ∈ allE L m, 0 ≤ x.1.2 ∧ x.1.2 < 1024 ∧ encE 1 x.2.1 x.2.2 = 0 ∧ 0 ≤ x.2.2 ∧ ∃ t, tb' x.1.1 = some t ∧ tabOf (ps.wanted.foldl (tkStep n base R) ⟨f, taken, ps.tabs⟩).tabs x.1.1 = t := fun x hx1 => by
    have hp : x.1 ∈ allPgs L m := by rw [← allE_pgs]; exact List.mem_map.2 ⟨x, hx1, rfl⟩
    obtain ⟨a, b, c, d, e⟩ := hx _ hp
    refine ⟨c, d, (hE x hx1).1, (hE x hx1).2, ?_⟩
    have hdone : x.1.1 ∈ ((allPgs L m).map (·.1) |>.filter fun i => (tb i).isSome) ++ ps.wanted := by
      rw [List.mem_append, List.mem_filter, hf.want]
      cases ht : tb x.1.1 with
      | none => exact .inr ⟨rfl, _, hp, rfl⟩
      | some t => exact .inl ⟨List.mem_map.2 ⟨_, hp, rfl⟩, by simp [ht]⟩
    obtain ⟨t, ht1, ht2⟩ := g1.dn _ hdone
    exact ⟨t, ht1, tabOf_tv ht2⟩
  refine ⟨(allE L m).foldl (lyStep n (ps.wanted.foldl (tkStep n base R) ⟨f, taken, ps.tabs⟩).tabs) (ps.wanted.foldl (tkStep n base R) ⟨f, taken, ps.tabs⟩).f, tb', ps.wanted, ?_, third_pass hn.2 (allE L m) _ _ g1.sp hxE, hf.nd, hf.want, fun i t ht => ?_, g3, g4, g5, fun a ha4 hoR hot hoT => ?_⟩
  · rw [mapP, hgood, if_neg (by decide), hps]
    simp only
    rw [if_neg (fun h => by have := hr2 h.1; rw [h.2] at this; cases this), if_neg (by omega), g2]
  · have := g1.fr i t ht; rw [g2] at this; exact this
  · rw [ly_frame hn.2 ha4 _ _ fun x hx1 => ?_]
    · exact tk_frame hn.2 ⟨hb, hb0⟩ h.pr ha4 hoR ps.wanted ⟨f, taken, ps.tabs⟩ (fun i hi => ⟨(hbd i hi).1, (hbd i hi).2.1⟩) ha.ht.1 (by simp only; omega) hoT
    · obtain ⟨c1, c2, c3, c4, t, c5, c6⟩ := hxE x hx1
      rw [c6]
      exact ⟨(g1.sp.pt _ _ c5).1, c1, c2, c3, c4, hot _ _ c5⟩
/-! ### Walk -/
theorem wAt_in {n t i : Int} (hn : n ≤ 4096) (h : Pg n t) (hi : 0 ≤ i ∧ i < 1024) : wAt t i = t + 4 * i := by
  obtain ⟨h0, h1, h2⟩ := h
  rw [wAt, if_neg (by omega)]
theorem walk_none {n R : Int} {f : Int → Int} {tb : Int → Option Int} {M : Int → Int → Int} (hn : n ≤ 4096) (h : SpInv n f R tb M) {v a : Int} (hv : 0 ≤ v ∧ v < 4294967296) (ht : tb (v / 4096 / 1024) = none) : ∃ s : Int × Int, walkP n f R v a = (0, [s], 3) := by
  have hi : 0 ≤ v / 4096 / 1024 ∧ v / 4096 / 1024 < 1024 := by omega
  have hw := h.rw' _ hi.1 hi.2
  rw [← h.pr.wW hn hi, ht] at hw
  simp only at hw
  have d : decE 0 = 0 ∧ decK 0 = 0 := by decide
  refine ⟨(wAt R (v / 4096 / 1024), 0), ?_⟩
  rw [walkP]
  simp only
  rw [if_neg (by rw [h.pr.ok hn hi]; decide), hw, if_neg (by simp [d.1]), if_pos d.2]
theorem walk_tab {n R : Int} {f : Int → Int} {tb : Int → Option Int} {M : Int → Int → Int} (hn : n ≤ 4096) (h : SpInv n f R tb M) {v a t : Int} (hv : 0 ≤ v ∧ v < 4294967296) (ht : tb (v / 4096 / 1024) = some t) :
    walkP n f R v a = (let w2 := M (v / 4096 / 1024) (v / 4096 % 1024)
      let l := [(R + 4 * (v / 4096 / 1024), t + 17), (t + 4 * (v / 4096 % 1024), w2)]
      if decE w2 ≠ 0 then (0, l, 4) else if decK w2 = 0 then (0, l, 3) else if decK w2 ≠ 1 then (0, l, 4) else
      if allowB (decP w2) a = false then (0, l, 5) else if n ≤ decF w2 then (0, l, 2) else (decF w2 * 4096 + v % 4096, l, 0)) := by
  have hi : 0 ≤ v / 4096 / 1024 ∧ v / 4096 / 1024 < 1024 := by omega
  have hj : 0 ≤ v / 4096 % 1024 ∧ v / 4096 % 1024 < 1024 := by omega
  have hw := h.rw' _ hi.1 hi.2
  rw [← h.pr.wW hn hi, ht] at hw
  simp only at hw
  obtain ⟨hp, hR⟩ := h.pt _ _ ht
  obtain ⟨d1, d2, d3⟩ := dec_tab hn hp
  have hp' := hp
  obtain ⟨p0, p1, p2⟩ := hp'
  rw [walkP]
  simp only
  rw [if_neg (by rw [h.pr.ok hn hi]; decide), hw, if_neg (by simp [d1]), if_neg (by rw [d2]; decide), if_neg (by rw [d2]; decide), d3, show t / 4096 * 4096 = t by omega, if_neg (by rw [hp.ok hn hj]; decide)]
  rw [hp.wW hn hj, h.tw _ _ _ ht hj.1 hj.2, wAt_in hn h.pr hi, wAt_in hn hp hj]
theorem walk_free {n R : Int} {f : Int → Int} {tb : Int → Option Int} {M : Int → Int → Int} (hn : n ≤ 4096) (h : SpInv n f R tb M) {v a : Int} (hv : 0 ≤ v ∧ v < 4294967296) (hM : M (v / 4096 / 1024) (v / 4096 % 1024) = 0) : ∃ l, walkP n f R v a = (0, l, 3) := by
  cases ht : tb (v / 4096 / 1024) with
  | none => obtain ⟨s, hs⟩ := walk_none hn h (a := a) hv ht; exact ⟨_, hs⟩
  | some t =>
    rw [walk_tab hn h hv ht, hM]
    have d : decE 0 = 0 ∧ decK 0 = 0 := by decide
    exact ⟨_, by simp only; rw [if_neg (by simp [d.1]), if_pos d.2]⟩
theorem walk_page {n R : Int} {f : Int → Int} {tb : Int → Option Int} {M : Int → Int → Int} (hn : n ≤ 4096) (h : SpInv n f R tb M) {v a p fr : Int} (hv : 0 ≤ v ∧ v < 4294967296) (he : encE 1 p fr = 0) (hf : 0 ≤ fr ∧ fr < n) (hM : M (v / 4096 / 1024) (v / 4096 % 1024) = encW 1 p fr) :
    ∃ s1 s2 : Int × Int, walkP n f R v a = (if allowB p a = true then fr * 4096 + v % 4096 else 0, [s1, s2], if allowB p a = true then 0 else 5) := by
  obtain ⟨d1, d2, d3, d4⟩ := dec_page he hf.1
  cases ht : tb (v / 4096 / 1024) with
  | none =>
    have := h.mz _ (v / 4096 % 1024) ht
    rw [hM, encW1 he] at this
    have := permOk_bd (encE1.1 he).1
    omega
  | some t =>
    refine ⟨(R + 4 * (v / 4096 / 1024), t + 17), (t + 4 * (v / 4096 % 1024), encW 1 p fr), ?_⟩
    rw [walk_tab hn h hv ht, hM]
    simp only
    rw [if_neg (by simp [d1]), if_neg (by rw [d2]; decide), if_neg (by rw [d2]; decide), d3, d4]
    cases allowB p a with
    | false => rw [if_pos rfl, if_neg (by decide), if_neg (by decide)]
    | true => rw [if_neg (by decide), if_neg (by omega), if_pos rfl, if_pos rfl]
end Go.Proofs.YtafhmkedblpdlaaDoor
end

/-
  The law's set of one cell.
-/
section
namespace Go.Proofs.YtafhmkedblpdlaaDoor
open Go Go.Vex
set_option maxRecDepth 20000
set_option maxHeartbeats 4000000
noncomputable def Im7 : FnT := [(7, fi Tryd.f7 ⟨[], 3⟩), (12, fi Tryd.f12 ⟨[], 0⟩), (17, fi Tryd.f17 ⟨[], 0⟩)]
theorem Im7ok : FnsOk kit Im7 := ⟨fo7 _, fo12 _, fo17 _, trivial⟩
theorem mapped_spec (ea eb : Nat) (S W L sl v ph p : Int) (f1 f2 : Int → Int) (ha : ea ≤ 8) (hb : 4 ≤ eb ∧ eb ≤ 8) (hS : S = 2 ^ ea) (hL : L = 2 ^ eb) (hW : 1 ≤ W ∧ W ≤ 8) (hsl : 1 ≤ sl ∧ sl ≤ 64) (hf1 : f1 = zeroF (fun _ => 0) 163840) (hf1ok : MemOk f1) (hLs : RgsOk ⟨[v], [ph], [1], [p]⟩ 1) (hm : (0, f2, 2) = mapP 64 163840 24 1 163840 false f1 ⟨[v], [ph], [1], [p]⟩ 1)
    {X : List (Value × Value)} (hX : X = rtE [(1, 163840)]) :
    Spec1 kit 7 [.slc 0 0 1 (.lit 0) (.lit 1) (.lit 1), .agg [.i .i64 (.ex S), .i .i64 (.ex W), .i .i64 (.ex L)], .i .i64 (.ex sl)] [.cells 31 [.slc 1 0 4 (.lit 0) (.lit 1) (.lit 1)], .cells 30 [.i .u32 (.ex v), .i .u32 (.ex ph), .i .i64 (.lit 1), .i .u8 (.ex p)]] false (.p 9 (.at 0)) [.cells 31 [.slc 1 0 4 (.lit 0) (.lit 1) (.lit 1)], .ro [.rows 4 (.ex 1) (rngF [v] [ph] [1] [p])]]
      [memB 64 f2, caC S W L (fun _ => []), .abs (MP []), tlB 5 sl 0, .abs (MP X), muB 3 4 6 7, .cells 42 [.p 3 (.at 0), .p 4 (.at 0), .p 6 (.at 0), .p 8 (.at 0)]] := by
  refine Spec1.mk2 rfl fun F => ?_
  refine into Im7ok 6 ?_
  conv => cbv
  refine OkCall.by_spec (new_spec 64 (by decide)) [] (by decide) (by cbv) (by cbv) ?_
  conv => cbv
  refine OkCall.by_spec (cnew_spec ea eb S W L ha hb hS hL hW) [] (by decide) (by cbv) (by cbv) ?_
  conv => cbv
  refine OkCall.by_spec (tlnew_spec sl hsl) [] (by decide) (by cbv) (by cbv) ?_
  conv => cbv
  refine OkCall.by_spec (munew_spec 64 S W L sl 0 (fun _ => 0) (fun _ => []) []) [6, 8, 11, 10] (by decide) (by cbv) ?_ ?_
  · conv => cbv
    exact ⟨⟨fun j _ => rowS_le (tgs fun _ => []) (dts fun _ => []) (mns fun _ => []) _ j, trivial⟩, trivial⟩
  conv => cbv
  refine OkCall.by_spec (arenaNew_spec 64 163840 24 (fun _ => 0) (by decide) (by decide) (by decide) (by decide) (by decide)) [6] (by decide) (by cbv) (by cbv) ?_
  conv => cbv
  refine OkCall.by_spec (tnew_ok 64 163840 24 0 (fun _ => 0) ⟨by decide, by decide, by decide, by decide, by decide⟩ (by decide) (at_ := 163840) (tk := 1) (by decide) (by decide)) [6, 17] (by decide) (by cbv) (by cbv) ?_
  rw [← hf1]
  conv => cbv
  refine OkCall.pre ((HImp.toRows 1 4 1 (rngF [v] [ph] [1] [p]) rfl rfl rfl ?_).trans (HImp.toRo 1 rfl)) ?_
  · intro j hj
    have : j = 0 := by omega
    subst this
    refine ⟨⟨rfl, ?_⟩, ⟨rfl, ?_⟩, ⟨rfl, ?_⟩, ⟨rfl, ?_⟩, trivial⟩
    · show gi [v] 0 = v
      rw [gi_eq]; rfl
    · show gi [ph] 0 = ph
      rw [gi_eq]; rfl
    · show gi [1] 0 = 1
      rw [gi_eq]; rfl
    · show gi [p] 0 = p
      rw [gi_eq]; rfl
  conv => cbv
  refine OkCall.by_spec (map_spec 64 163840 24 1 163840 false f1 [v] [ph] [1] [p] 1 1 hLs (by decide) hf1ok (by decide) ⟨by decide, by decide, by decide, by decide, by decide⟩ hm) [6, 17, 19, 1] (by decide) (by cbv) ?_ ?_
  · conv => cbv
    exact ⟨⟨fun j _ => rngF_le _ _, trivial⟩, trivial⟩
  conv => cbv
  refine QCall.of_call (.i .u32 (.ex 163840)) rfl ?_ ?_
  · refine into Im7ok 6 ?_
    conv => cbv
    try trivial
  conv => cbv
  refine OkCall.by_spec (root_spec 64 S W L sl 0 1 163840 f2 (fun _ => []) [] (by decide) (by decide) (X := []) (X' := X) rfl (hX.trans rfl)) [14, 6, 8, 11, 13, 10] (by decide) (by cbv) ?_ ?_
  · conv => cbv
    exact ⟨⟨fun j _ => rowS_le (tgs fun _ => []) (dts fun _ => []) (mns fun _ => []) _ j, trivial⟩, trivial⟩
  conv => cbv
  refine Br.no (neI_f.2 rfl) ?_
  conv => cbv
  refine (LeOut.mk' [0, 1, 2, 6, 8, 10, 11, 13, 14, 15] (by decide) (by rfl) (by decide) (by cbv) ?_).two
  conv => cbv
  exact ⟨⟨fun j _ => rngF_le _ _, trivial⟩, ⟨fun j _ => rowS_le (tgs fun _ => []) (dts fun _ => []) (mns fun _ => []) _ j, trivial⟩, trivial⟩
end Go.Proofs.YtafhmkedblpdlaaDoor
end

/-
  Plain: a space of one page.
-/
section
namespace Go.Proofs.YtafhmkedblpdlaaDoor
open Go Go.Vex
set_option maxHeartbeats 4000000
theorem one_map {v ph p fr : Int} (hv : (0 ≤ v ∧ v < 4294967296) ∧ v % 4096 = 0) (hfr : 0 ≤ fr ∧ fr < 40) (hph : ph = 4096 * fr) (hp : permOk p = true) :
    ∃ (f2 : Int → Int) (t : Int), (0, f2, 2) = mapP 64 163840 24 1 163840 false (zeroF (fun _ => 0) 163840) ⟨[v], [ph], [1], [p]⟩ 1 ∧ Pg 64 t ∧ 167936 ≤ t ∧
      ∀ g : Int → Int, (∀ a, a % 4 = 0 → 163840 ≤ a → w32f g a = w32f f2 a) → ∀ w a, 0 ≤ w → w < 4294967296 → w / 4096 = v / 4096 → allowB p a = true →
        walkP 64 g 163840 w a = (fr * 4096 + w % 4096, [(163840 + 4 * (v / 4096 / 1024), t + 17), (t + 4 * (v / 4096 % 1024), encW 1 p fr)], 0) := by
  obtain ⟨L, hL⟩ : ∃ L : Rgs, L = ⟨[v], [ph], [1], [p]⟩ := ⟨_, rfl⟩
  obtain ⟨i0, hi0⟩ : ∃ x, x = v / 4096 / 1024 := ⟨_, rfl⟩
  obtain ⟨j0, hj0⟩ : ∃ x, x = v / 4096 % 1024 := ⟨_, rfl⟩
  have hE : allE L 1 = [((i0, j0), (p, fr))] := by
    rw [hL, hi0, hj0]
    show [pgE _ 0 0] = _
    unfold pgE pgOf
    simp
    omega
  have hP : allPgs L 1 = [(i0, j0)] := by rw [← allE_pgs, hE]; rfl
  have he : encE 1 p fr = 0 := encE1.2 ⟨hp, by omega⟩
  have hR : Pg 64 163840 := ⟨by decide, by decide, by decide⟩
  obtain ⟨f1, hf1⟩ : ∃ f, f = zeroF (fun _ => 0) 163840 := ⟨_, rfl⟩
  have h0 : SpInv 64 f1 163840 (fun _ => none) (fun _ _ => 0) := SpInv.new hR fun i h0 h1 => by
    rw [hf1, w32_zero (by omega) (by decide), if_pos (by omega)]
  have hws : ∀ ws : List Int, ws.Nodup → (∀ i, i ∈ ws ↔ (none : Option Int) = none ∧ ∃ x ∈ allPgs L 1, x.1 = i) → ws.length = 1 := by
    intro ws hd hm
    have hm' : ∀ i, i ∈ ws ↔ i = i0 := fun i => by rw [hm, hP]; simp [eq_comm]
    cases ws with
    | nil => have := (hm' i0).2 rfl; simp at this
    | cons x r =>
      cases r with
      | nil => rfl
      | cons y r =>
        have h1 := (hm' x).1 (by simp)
        have h2 := (hm' y).1 (by simp)
        rw [List.nodup_cons] at hd
        exact absurd (by rw [h1, h2]; simp) hd.1
  obtain ⟨f2, tb, ws, g1, g2, g3, g4, g5, g6, g7, g8, g9⟩ := map_ok (sealed := false) (L := L) (m := 1) (base := 163840) (pages := 24) (taken := 1) h0 ⟨by decide, by decide, by decide, by decide, by decide⟩ (fun i t ht => by cases ht) (by decide) (by
      have hi : (1 : Int) ≤ 1048576 - v / 4096 := by omega
      have hb : badR L 0 = false := by
        rw [badR, hL]
        show (!mayB v ph 1 p) = false
        rw [mayB, show ph / 4096 = fr by omega, decide_eq_true ⟨he, hv.2, by omega, by omega, hi, by omega⟩]; rfl
      show ((List.range 1).any (badR L)) = false
      simp [hb]) (by rw [hP]; simp) (fun x hx => by rw [hP, List.mem_singleton] at hx; subst hx; exact ⟨by simp only; omega, by simp only; omega, by simp only; omega, by simp only; omega, rfl⟩)
      (fun x hx => by rw [hE, List.mem_singleton] at hx; subst hx; exact ⟨he, hfr.1⟩) (fun ws hd hm => by rw [hws ws hd hm]; exact ⟨by decide, fun _ => rfl⟩)
  have hl := hws ws g3 g4
  rw [hl] at g1 g5
  have hM : setA (fun _ _ => 0) (allE L 1) i0 j0 = encW 1 p fr := by rw [hE]; simp [setA, setM]
  have hnz : encW 1 p fr ≠ 0 := by rw [encW1 he]; have := permOk_bd hp; omega
  have htb : tb i0 ≠ none := fun h => by have := g2.mz i0 j0 h; rw [hM] at this; exact hnz this
  obtain ⟨t, ht⟩ := Option.ne_none_iff_exists'.1 htb
  have hpt := g2.pt i0 t ht
  have ht8 : 167936 ≤ t := by
    rcases g8 i0 t ht with h | h
    · cases h
    · omega
  refine ⟨f2, t, by rw [← hL, ← hf1, g1]; rfl, hpt.1, ht8, fun g hg w a hw0 hw1 hwv hal => ?_⟩
  have hall : ∀ i u, tb i = some u → 167936 ≤ u ∧ u % 4096 = 0 := fun i u hu => by
    refine ⟨?_, (g2.pt i u hu).1.2.1⟩
    rcases g8 i u hu with h | h
    · cases h
    · omega
  have gsp : SpInv 64 g 163840 tb (setA (fun _ _ => 0) (allE L 1)) := g2.elsewhere (fun j a0 a1 => hg _ (by omega) (by omega)) (fun i u j hu a0 a1 => by have := hall i u hu; exact hg _ (by omega) (by omega))
  obtain ⟨d1, d2, d3, d4⟩ := dec_page he hfr.1
  rw [walk_tab (by decide) gsp ⟨hw0, hw1⟩ (t := t) (by rw [hwv, ← hi0]; exact ht), hwv, ← hi0, ← hj0, hM]
  simp only
  rw [if_neg (by simp [d1]), if_neg (by rw [d2]; decide), if_neg (by rw [d2]; decide), d3, d4, if_neg (by rw [hal]; decide), if_neg (by omega)]
end Go.Proofs.YtafhmkedblpdlaaDoor
end

/-
  Translations and accesses: what the laws of one cell need.
-/
section
namespace Go.Proofs.YtafhmkedblpdlaaDoor
open Go Go.Vex
set_option maxRecDepth 20000
set_option maxHeartbeats 4000000
theorem accL_len {W : Int} {l : List (Int × Bool)} {t : Int} {w : Bool} (hW : 1 ≤ W) (hl : (l.length : Int) ≤ W) : ((accL W l t w).2.length : Int) ≤ W := by
  unfold accL
  simp only
  split
  · rename_i h
    have := findR_lt h
    simp; omega
  · split
    · simp; omega
    · simp; omega
theorem accL_cost {W : Int} {l : List (Int × Bool)} {t : Int} {w : Bool} : 0 ≤ (accL W l t w).1.2.2 ∧ (accL W l t w).1.2.2 ≤ 20 := by
  unfold accL
  simp only
  split
  · simp
  · split
    · simp only; split <;> decide
    · simp
theorem accL_hot {W : Int} {l : List (Int × Bool)} {t : Int} {w : Bool} : ∃ d r, (accL W l t w).2 = (t, d) :: r := by
  unfold accL
  simp only
  split
  · exact ⟨_, _, rfl⟩
  · split
    · exact ⟨_, _, rfl⟩
    · exact ⟨_, _, rfl⟩
theorem accL_hit {W : Int} {l : List (Int × Bool)} {t : Int} {d w : Bool} {r : List (Int × Bool)} (h : l = (t, d) :: r) : (accL W l t w).1 = (true, false, 1) := by
  have h0 : findR (l.map (·.1)) l.length t = 0 := by
    rw [h]
    exact findR_some (j := 0) (by simp) rfl (fun i hi => by omega)
  unfold accL
  simp only
  rw [h0, if_pos (by decide)]
/-- An address is held by the cache, ahead of all others of its set. -/
def Hot (S L : Int) (C : Ca) (a : Int) : Prop := ∃ d r, C (a / L % S).toNat = (a / L / S, d) :: r
theorem accC_len {S W L a : Int} {C : Ca} {w : Bool} (hW : 1 ≤ W) (hC : ∀ k, ((C k).length : Int) ≤ W) (k : Nat) : (((accC S W L C a w).2 k).length : Int) ≤ W := by
  unfold accC
  simp only
  split
  · exact accL_len hW (hC _)
  · exact hC k
theorem accC_cost {S W L a : Int} {C : Ca} {w : Bool} : 0 ≤ (accC S W L C a w).1.2.2 ∧ (accC S W L C a w).1.2.2 ≤ 20 := accL_cost
theorem accC_hot {S W L a : Int} {C : Ca} {w : Bool} : Hot S L (accC S W L C a w).2 a := by
  obtain ⟨d, r, h⟩ := accL_hot (W := W) (l := C (a / L % S).toNat) (t := a / L / S) (w := w)
  refine ⟨d, r, ?_⟩
  unfold accC
  simp only
  rw [if_pos trivial, h]
theorem Hot.hit {S W L a : Int} {C : Ca} {w : Bool} (h : Hot S L C a) : (accC S W L C a w).1 = (true, false, 1) := by
  obtain ⟨d, r, h⟩ := h
  exact accL_hit h
/-- A miss, and a page that is mapped. -/
theorem tr_miss (ea eb : Nat) (S W L sl now c p root va a ad : Int) (g : Int → Int) (C : Ca) (R : RE) (s1 s2 : Int × Int) {j : Nat} (hm : MemOk g) (hroot : 0 ≤ root ∧ root < 4294967296)
    (ha : ea ≤ 8) (hb : eb ≤ 8) (hS : S = 2 ^ ea) (hL : L = 2 ^ eb) (hW : 1 ≤ W ∧ W ≤ 8) (hC : ∀ k, ((C k).length : Int) ≤ W) (hva : 0 ≤ va ∧ va < 4294967296) (hnow : 0 ≤ now ∧ now < 1000000) (hsl : 1 ≤ sl) (hp : p = va / 4096) (hR : fP c R 0 = some (j, root))
    (hw : walkP 64 g root va a = (ad, [s1, s2], 0)) (h1 : 0 ≤ s1.1 ∧ s1.1 < 4294967296) (h2 : 0 ≤ s2.1 ∧ s2.1 < 4294967296) (h3 : 0 ≤ s2.2 ∧ s2.2 < 4294967296) (h4 : 0 ≤ s1.2 ∧ s1.2 < 4294967296)
    {C1 C2 : Ca} (hC1 : C1 = (accC S W L C s1.1 false).2) (hC2 : C2 = (accC S W L C1 s2.1 false).2) {co now2 : Int} (hco : co = (accC S W L C s1.1 false).1.2.2 + (accC S W L C1 s2.1 false).1.2.2) (hnow2 : now2 = now + 1) {X XE XE2 : List (Value × Value)} (hX : X = rtE R) (hXE : XE = []) (hXE2 : XE2 = tlE [((c, p), (decF s2.2, decP s2.2, now2))]) :
    TrS 64 S W L sl g X c va a now C XE ad co 0 now2 C2 XE2 := by
  refine trans_spec ea eb 64 S W L sl now c p root va a 0 0 0 now ad co 0 now2 g C C2 R [] [] [((c, p), (decF s2.2, decP s2.2, now2))] false (by decide) hm hroot ha hb hS hL hW hC hva ⟨hnow.1, by omega⟩ hp hR rfl (fun h => by cases h) (fun _ => ?_) hX hXE hXE hXE2
  have b1 := accC_cost (S := S) (W := W) (L := L) (a := s1.1) (C := C) (w := false)
  have b2 := accC_cost (S := S) (W := W) (L := L) (a := s2.1) (C := C1) (w := false)
  exact ⟨s1, s2, (accC S W L C s1.1 false).1.1, (accC S W L C1 s2.1 false).1.1, (accC S W L C s1.1 false).1.2.1, (accC S W L C1 s2.1 false).1.2.1, (accC S W L C s1.1 false).1.2.2, (accC S W L C1 s2.1 false).1.2.2, C1, hw, rfl, h1, h2, h3, h4, by rw [hC1],
    by rw [hC1]; exact fun k => accC_len hW.1 hC k, by rw [hC2], hco, by omega, by omega, by omega, .inr (by show ((0 : Nat) : Int) ≠ sl; omega), hnow2, rfl⟩
/-- A hit. -/
theorem tr_hit (ea eb : Nat) (S W L sl now c p root va a ad fl fr pm us : Int) (g : Int → Int) (C : Ca) (R : RE) {j : Nat} (hm : MemOk g) (hroot : 0 ≤ root ∧ root < 4294967296)
    (ha : ea ≤ 8) (hb : eb ≤ 8) (hS : S = 2 ^ ea) (hL : L = 2 ^ eb) (hW : 1 ≤ W ∧ W ≤ 8) (hC : ∀ k, ((C k).length : Int) ≤ W) (hva : 0 ≤ va ∧ va < 4294967296) (hnow : 0 ≤ now ∧ now < 1000000) (hp : p = va / 4096) (hR : fP c R 0 = some (j, root))
    (hfr : 0 ≤ fr ∧ fr < 4294967296) (hpm : 0 ≤ pm ∧ pm < 256) (hk : knownP 64 fr pm va a = (ad, fl)) {now2 : Int} (hnow2 : now2 = now + 1) {X XE XE2 : List (Value × Value)} (hX : X = rtE R) (hXE : XE = tlE [((c, p), (fr, pm, us))]) (hXE2 : XE2 = tlE [((c, p), (fr, pm, now2))]) :
    TrS 64 S W L sl g X c va a now C XE ad 0 fl now2 C XE2 := by
  have hf : fP (c, p) [((c, p), (fr, pm, us))] 0 = some (0, (fr, pm, us)) := by simp [fP]
  have hput : putP (c, p) (fr, pm, now2) [((c, p), (fr, pm, us))] = [((c, p), (fr, pm, now2))] := by simp [putP, hf]
  refine trans_spec ea eb 64 S W L sl now c p root va a fr pm us now2 ad 0 fl now2 g C C R [((c, p), (fr, pm, us))] [((c, p), (fr, pm, now2))] [((c, p), (fr, pm, now2))] true (by decide) hm hroot ha hb hS hL hW hC hva ⟨hnow.1, by omega⟩ hp hR ?_ (fun _ => ⟨hfr, hpm, hk, rfl, rfl, rfl, rfl⟩) (fun h => by cases h) hX hXE hXE2 hXE2
  rw [hf, ← hput, hnow2]
/-- A cell of no root. -/
theorem tr_none (n S W L sl now c va a : Int) (g : Int → Int) (C : Ca) (R : RE) (hR : fP c R 0 = none) {X XE : List (Value × Value)} (hX : X = rtE R) :
    TrS n S W L sl g X c va a now C XE 0 0 3 now C XE := by
  refine Spec1.mk2 rfl fun F => ?_
  refine intoC Im49ok 6 O49 (fn := Tryd.f49) (by kernel_rfl) (by kernel_rfl) (by decide +kernel) (by kernel_rfl) (by kernel_rfl) ?_
  conv => cbv
  refine XOpN.x (lookupE (L := vm (Value.int .u32) R) (hX.trans rfl) mt68 ki3 rfl rfl rfl c (fun ρ c h => den_i h) (.tup [.i .u32 (.lit 0), .b (.lit false)]) (fun ρ => by rw [fA_vm, hR]; exact .tup _ rfl (.cons _ _ rfl (.i rfl) (.cons _ _ rfl (.b rfl) (.nil rfl)))) ?_)
  conv => cbv
  refine (LeOut.mk' [0, 1, 2, 3, 4, 5, 6, 7] (by decide) (by rfl) (by decide) (by cbv) ?_).two
  conv => cbv
  exact ⟨⟨fun j _ => rowS_le _ _ _ _ _, trivial⟩, trivial⟩
end Go.Proofs.YtafhmkedblpdlaaDoor
end

/-
  The law's works: the chapter's first example.
-/
section
namespace Go.Proofs.YtafhmkedblpdlaaDoor
open Go Go.Vex
set_option maxRecDepth 20000
set_option maxHeartbeats 4000000
theorem accL_cold {W t : Int} {l : List (Int × Bool)} (h : ∀ x ∈ l, x.1 ≠ t ∧ x.2 = false) : (accL W l t false).1.2.2 = 12 ∧ (accL W l t false).2 = (t, false) :: (if (l.length : Int) = W then l.take (l.length - 1) else l) := by
  have hf : findR (l.map (·.1)) l.length t = -1 := findR_none fun i hi => by
    rw [List.getD_eq_getElem?_getD, List.getElem?_map, List.getElem?_eq_getElem hi]
    exact (h _ (List.getElem_mem hi)).1
  have hd : (l.getD (l.length - 1) (0, false)).2 = false := by
    by_cases hl : l.length - 1 < l.length
    · rw [List.getD_eq_getElem?_getD, List.getElem?_eq_getElem hl]
      exact (h _ (List.getElem_mem hl)).2
    · rw [List.getD_eq_getElem?_getD, List.getElem?_eq_none (by omega)]; rfl
  unfold accL
  simp only
  rw [hf, if_neg (by decide)]
  by_cases e : (l.length : Int) = W
  · rw [if_pos e, if_pos e, hd]; exact ⟨rfl, rfl⟩
  · rw [if_neg e, if_neg e]; exact ⟨rfl, rfl⟩
theorem accC_cold {S W L a : Int} {C : Ca} (h : ∀ x ∈ C (a / L % S).toNat, x.1 ≠ a / L / S ∧ x.2 = false) : (accC S W L C a false).1.2.2 = 12 ∧
    (accC S W L C a false).2 (a / L % S).toNat = (a / L / S, false) :: (if ((C (a / L % S).toNat).length : Int) = W then (C (a / L % S).toNat).take ((C (a / L % S).toNat).length - 1) else C (a / L % S).toNat) := by
  have := accL_cold (W := W) h
  unfold accC
  simp only
  rw [if_pos trivial]
  exact this
/-- What the first load costs. -/
theorem cost36 {t : Int} (ht : 167936 ≤ t ∧ t < 262144 ∧ t % 4096 = 0) {C1 C2 : Ca} (h1 : C1 = (accC 16 2 16 (fun _ => []) 163844 false).2) (h2 : C2 = (accC 16 2 16 C1 t false).2) :
    (accC 16 2 16 (fun _ => []) 163844 false).1.2.2 = 12 ∧ (accC 16 2 16 C1 t false).1.2.2 = 12 ∧ (accC 16 2 16 C2 20480 false).1.2.2 = 12 := by
  have a1 := accC_cold (S := 16) (W := 2) (L := 16) (a := 163844) (C := fun _ => []) (by simp)
  have e1 : (163844 / 16 % 16 : Int).toNat = 0 := by decide
  rw [e1] at a1
  have c1 : C1 0 = [(640, false)] := by rw [h1, a1.2]; rfl
  have e2 : (t / 16 % 16 : Int).toNat = 0 := by omega
  have a2 := accC_cold (S := 16) (W := 2) (L := 16) (a := t) (C := C1) (by
    rw [e2, c1]; intro x hx; rw [List.mem_singleton] at hx; subst hx; exact ⟨by simp only; omega, rfl⟩)
  rw [e2, c1] at a2
  have c2 : C2 0 = [(t / 16 / 16, false), (640, false)] := by rw [h2, a2.2]; rfl
  have e3 : (20480 / 16 % 16 : Int).toNat = 0 := by decide
  have a3 := accC_cold (S := 16) (W := 2) (L := 16) (a := 20480) (C := C2) (by
    rw [e3, c2]; intro x hx
    rcases List.mem_cons.1 hx with hx | hx
    · subst hx; exact ⟨by simp only; omega, rfl⟩
    · rw [List.mem_singleton] at hx; subst hx; exact ⟨by decide, rfl⟩)
  exact ⟨a1.1, a2.1, a3.1⟩
theorem rgs_one {v ph p : Int} (hv : 0 ≤ v ∧ v < 4294967296) (hph : 0 ≤ ph ∧ ph < 4294967296) (hp : 0 ≤ p ∧ p < 256) : RgsOk ⟨[v], [ph], [1], [p]⟩ 1 := by
  refine ⟨fun j => ?_, fun j => ?_, fun j => ?_, fun j => ?_, by decide⟩
  · cases j with
    | zero => exact hv
    | succ j => simp
  · cases j with
    | zero => exact hph
    | succ j => simp
  · cases j with
    | zero => exact (by decide : -9223372036854775808 ≤ (1 : Int) ∧ (1 : Int) < 9223372036854775808)
    | succ j => simp
  · cases j with
    | zero => exact hp
    | succ j => simp
theorem mem0_ok : MemOk fun _ => 0 := fun _ => ⟨Int.le_refl _, (by decide : (0 : Int) < 256)⟩
noncomputable def Im5 : FnT := [(5, fi Tryd.f5 ⟨[], 0⟩)]
theorem Im5ok : FnsOk kit Im5 := ⟨fo5 _, trivial⟩
theorem works_spec : Spec1 kit 5 [] [tzB] false (.b (.lit true)) [tzB] [] := by
  obtain ⟨f2, t, hm, hpt, ht8, hwalk⟩ := one_map (v := 4194304) (ph := 20480) (p := 1) (fr := 5) (by decide) (by decide) (by decide) (by decide)
  obtain ⟨f1, hf1⟩ : ∃ f, f = zeroF (fun _ => 0) 163840 := ⟨_, rfl⟩
  rw [← hf1] at hm
  have hf1ok : MemOk f1 := by rw [hf1]; exact zeroF_ok mem0_ok _
  have hf2ok : MemOk f2 := by have := mapP_ok (n := 64) (base := 163840) (pages := 24) (taken := 1) (root := 163840) (sealed := false) (L := ⟨[4194304], [20480], [1], [1]⟩) (m := 1) hf1ok; rw [← hm] at this; exact this
  obtain ⟨g, hg⟩ : ∃ g, g = storeF f2 64 20484 77 := ⟨_, rfl⟩
  have hgok : MemOk g := by rw [hg]; exact storeF_ok hf2ok _ _ _
  have hgw : ∀ a, a % 4 = 0 → w32f g a = if a = 20484 then 77 else w32f f2 a := fun a ha => by rw [hg]; exact w32_store ha (by decide) (by decide)
  have hw1 := hwalk g (fun a ha hb => by rw [hgw a ha, if_neg (by omega)]) 4194304 1 (by decide) (by decide) rfl (by decide)
  obtain ⟨X, hX⟩ : ∃ X, X = rtE [(1, 163840)] := ⟨_, rfl⟩
  obtain ⟨C1, hC1⟩ : ∃ C : Ca, C = (accC 16 2 16 (fun _ => []) 163844 false).2 := ⟨_, rfl⟩
  obtain ⟨C2, hC2⟩ : ∃ C : Ca, C = (accC 16 2 16 C1 t false).2 := ⟨_, rfl⟩
  obtain ⟨C3, hC3⟩ : ∃ C : Ca, C = (accC 16 2 16 C2 20480 false).2 := ⟨_, rfl⟩
  obtain ⟨C4, hC4⟩ : ∃ C : Ca, C = (accC 16 2 16 C3 20484 false).2 := ⟨_, rfl⟩
  obtain ⟨q0, q1, q2⟩ := hpt
  obtain ⟨k1, k2, k3⟩ := cost36 ⟨ht8, by omega, q1⟩ hC1 hC2
  have hl0 : ∀ k, ((((fun _ => []) : Ca) k).length : Int) ≤ 2 := fun k => (by decide : ((0 : Nat) : Int) ≤ 2)
  have hl1 : ∀ k, ((C1 k).length : Int) ≤ 2 := by rw [hC1]; exact fun k => accC_len (by decide) hl0 k
  have hl2 : ∀ k, ((C2 k).length : Int) ≤ 2 := by rw [hC2]; exact fun k => accC_len (by decide) hl1 k
  have hl3 : ∀ k, ((C3 k).length : Int) ≤ 2 := by rw [hC3]; exact fun k => accC_len (by decide) hl2 k
  have hl4 : ∀ k, ((C4 k).length : Int) ≤ 2 := by rw [hC4]; exact fun k => accC_len (by decide) hl3 k
  have hR1 : fP (1 : Int) [((1 : Int), (163840 : Int))] 0 = some (0, 163840) := by decide
  have hR2 : fP (2 : Int) [((1 : Int), (163840 : Int))] 0 = none := by decide
  obtain ⟨XE1, hXE1⟩ : ∃ E, E = tlE [((1, 1024), (5, 1, 1))] := ⟨_, rfl⟩
  obtain ⟨XE2, hXE2⟩ : ∃ E, E = tlE [((1, 1024), (5, 1, 2))] := ⟨_, rfl⟩
  obtain ⟨XE3, hXE3⟩ : ∃ E, E = tlE [((1, 1024), (5, 1, 3))] := ⟨_, rfl⟩
  obtain ⟨d1, d2, d3, d4⟩ := dec_page (p := 1) (fr := 5) (by decide) (by decide)
  have htr1 : TrS 64 16 2 16 4 g X 1 4194304 1 0 (fun _ => []) [] 20480 24 0 1 C2 XE1 :=
    tr_miss 4 4 16 2 16 4 0 1 1024 163840 4194304 1 20480 g (fun _ => []) [(1, 163840)] (163844, t + 17) (t, encW 1 1 5) hgok (by decide) (by decide) (by decide) (by decide) (by decide) (by decide) hl0 (by decide) (by decide) (by decide) (by decide) hR1
      (by rw [hw1]; simp) (by show (0 : Int) ≤ 163844 ∧ (163844 : Int) < 4294967296; decide) (by simp only; omega) (by show 0 ≤ encW 1 1 5 ∧ encW 1 1 5 < 4294967296; decide) (by simp only; omega) hC1 hC2 (by rw [k1, k2]; rfl) (by decide) hX rfl (by rw [hXE1, d3, d4])
  have htr2 : TrS 64 16 2 16 4 g X 1 4194308 1 1 C3 XE1 20484 0 0 2 C3 XE2 :=
    tr_hit 4 4 16 2 16 4 1 1 1024 163840 4194308 1 20484 0 5 1 1 g C3 [(1, 163840)] hgok (by decide) (by decide) (by decide) (by decide) (by decide) (by decide) hl3 (by decide) (by decide) (by decide) hR1 (by decide) (by decide) (by decide) (by decide) hX hXE1 hXE2
  have htr3 : TrS 64 16 2 16 4 g X 1 4194304 2 2 C4 XE2 0 0 5 3 C4 XE3 :=
    tr_hit 4 4 16 2 16 4 2 1 1024 163840 4194304 2 0 5 5 1 2 g C4 [(1, 163840)] hgok (by decide) (by decide) (by decide) (by decide) (by decide) (by decide) hl4 (by decide) (by decide) (by decide) hR1 (by decide) (by decide) (by decide) (by decide) hX hXE2 hXE3
  have htr4 : TrS 64 16 2 16 4 g X 2 4194304 1 3 C4 XE3 0 0 3 3 C4 XE3 := tr_none 64 16 2 16 4 3 2 4194304 1 g C4 [(1, 163840)] hR2 hX
  obtain ⟨ht1, bk1, hac1⟩ : ∃ a b, ((a, b, (12 : Int)), C3) = accC 16 2 16 C2 20480 false := ⟨(accC 16 2 16 C2 20480 false).1.1, (accC 16 2 16 C2 20480 false).1.2.1, by rw [hC3, ← k3]⟩
  have hhot : Hot 16 16 C3 20484 := by
    have : Hot 16 16 C3 20480 := by rw [hC3]; exact accC_hot
    exact this
  obtain ⟨ht2, bk2, hac2⟩ : ∃ a b, ((a, b, (1 : Int)), C4) = accC 16 2 16 C3 20484 false := ⟨true, false, by rw [hC4, ← hhot.hit (W := 2) (w := false)]⟩
  obtain ⟨v1, hv1⟩ : ∃ v, v = w32f g 20480 := ⟨_, rfl⟩
  have hv2 : 77 = w32f g 20484 := by rw [hgw _ (by decide), if_pos rfl]
  refine Spec1.mk2 rfl fun F => ?_
  refine into Im5ok 6 ?_
  conv => cbv
  refine OkCall.by_spec (mapped_spec 4 4 16 2 16 4 4194304 20480 1 f1 f2 (by decide) (by decide) (by decide) (by decide) (by decide) (by decide) hf1 hf1ok (rgs_one (by decide) (by decide) (by decide)) hm hX) [3, 2] (by decide) (by cbv) (by cbv) ?_
  conv => cbv
  refine OkCall.by_spec (store4_spec 64 20484 77 f2 (by decide) (by decide) (by decide) (e := 0) (by decide) hg) [5] (by decide) (by cbv) (by cbv) ?_
  conv => cbv
  refine OkCall.by_spec (load_ok 4 4 64 16 2 16 4 1 4194304 0 20480 24 1 12 v1 36 g (fun _ => []) C2 C3 (X := X) (XE := []) (XE2 := XE1) (hit := ht1) (back := bk1) (by decide) (by decide) (by decide) (by decide) (by decide) (by decide) hl2 (by decide) htr1 (by decide) (by decide) (by decide) (by decide) hac1 (by decide) hv1) [10, 5, 6, 8, 9, 7, 0] (by decide) (by cbv) ?_ ?_
  · conv => cbv
    exact ⟨⟨fun j _ => rowS_le (tgs fun _ => []) (dts fun _ => []) (mns fun _ => []) _ j, trivial⟩, trivial⟩
  conv => cbv
  refine OkCall.by_spec (load_ok 4 4 64 16 2 16 4 1 4194308 1 20484 0 2 1 77 1 g C3 C3 C4 (X := X) (XE := XE1) (XE2 := XE2) (hit := ht2) (back := bk2) (by decide) (by decide) (by decide) (by decide) (by decide) (by decide) hl3 (by decide) htr2 (by decide) (by decide) (by decide) (by decide) hac2 (by decide) hv2) [10, 5, 6, 8, 9, 7, 0] (by decide) (by cbv) ?_ ?_
  · conv => cbv
    exact ⟨⟨fun j _ => rowS_le (tgs C3) (dts C3) (mns C3) _ j, trivial⟩, trivial⟩
  conv => cbv
  refine OkCall.by_spec (store_no 64 16 2 16 4 1 4194304 2 0 0 3 5 1 g C4 C4 (X := X) (XE := XE2) (XE2 := XE3) (by decide) htr3 (by decide)) [10, 5, 6, 8, 9, 7, 0] (by decide) (by cbv) ?_ ?_
  · conv => cbv
    exact ⟨⟨fun j _ => rowS_le (tgs C4) (dts C4) (mns C4) _ j, trivial⟩, trivial⟩
  conv => cbv
  refine OkCall.by_spec (load_no 64 16 2 16 4 2 4194304 3 0 0 3 3 g C4 C4 (X := X) (XE := XE3) (XE2 := XE3) (by decide) htr4 (by decide)) [10, 5, 6, 8, 9, 7, 0] (by decide) (by cbv) ?_ ?_
  · conv => cbv
    exact ⟨⟨fun j _ => rowS_le (tgs C4) (dts C4) (mns C4) _ j, trivial⟩, trivial⟩
  conv => cbv
  repeat (refine Br.yes (eqI_t.2 rfl) ?_; (conv => cbv))
  refine (LeOut.mk' [0, 1] (by decide) (by rfl) (by decide) ?_ (by cbv)).two
  conv => cbv
  first
    | exact eqI_t.2 rfl
    | exact (eqI_t.2 rfl).symm
end Go.Proofs.YtafhmkedblpdlaaDoor
end

/-
  MMULong: the walk.
-/
section
namespace Go.Proofs.YtafhmkedblpdlaaDoor
open Go Go.Vex
set_option maxRecDepth 20000
set_option maxHeartbeats 4000000
noncomputable def Im6 : FnT := [(6, fi Tryd.f6 ⟨[], 0⟩)]
theorem Im6ok : FnsOk kit Im6 := ⟨fo6 _, trivial⟩
def pick8 (c n : Int) : Int := (if c < 0 then -(c + 1) else c) % n
theorem pick8_spec (c n : Int) (hc : -9223372036854775808 ≤ c ∧ c < 9223372036854775808) (hn : 0 < n ∧ n < 9223372036854775808) {r : Int} (hr : r = pick8 c n) : Spec1 kit 6 [.i .i64 (.ex c), .i .i64 (.ex n)] [] true (.i .i64 (.ex r)) [] [] := by
  refine Spec1.mk2 rfl fun F => ?_
  refine into Im6ok 6 ?_
  conv => cbv
  refine Br.mk (fun h => ?_) (fun h => ?_)
  · have h : c < 0 := ltI_t.1 h
    conv => cbv
    refine ⟨neZ.mk (by omega), (LeOut.mk' [0] (by decide) rfl (by decide) ?_ (by cbv)).two⟩
    conv => cbv
    show r = remI (subI .i64 0 (addI .i64 c 1)) n
    rw [remI_eq, subI_eq, addI_eq, IntWalk.i64_in (c + 1) (by omega), IntWalk.i64_in _ (by omega), hr, pick8, if_pos h, Int.zero_sub, Int.tmod_eq_emod_of_nonneg (by omega)]
  · have h : 0 ≤ c := ltI_f.1 h
    conv => cbv
    refine ⟨neZ.mk (by omega), (LeOut.mk' [0] (by decide) rfl (by decide) ?_ (by cbv)).two⟩
    conv => cbv
    show r = remI c n
    rw [remI_eq, hr, pick8, if_neg (by omega), Int.tmod_eq_emod_of_nonneg h]
noncomputable def O4 : Opt := ⟨[25, 33, 47, 58, 81], 0⟩
noncomputable def Im4 : FnT := [(4, fi Tryd.f4 O4)]
theorem Im4ok : FnsOk kit Im4 := ⟨fo4 _, trivial⟩
theorem long_tail (page slots many v : Int) (hpg : -9223372036854775808 ≤ page ∧ page < 9223372036854775808) (hsl : -9223372036854775808 ≤ slots ∧ slots < 9223372036854775808) (hmn : -9223372036854775808 ≤ many ∧ many < 9223372036854775808) (hv : 0 ≤ v ∧ v < 4294967296) :
    Spec1 kit 4 [.i .i64 (.ex page), .i .i64 (.ex slots), .i .i64 (.ex many), .i .u32 (.ex v)] [tzB] false (.b (.lit true)) [tzB] [] := by
  obtain ⟨pn, hpn⟩ : ∃ x, x = pick8 page 1048576 := ⟨_, rfl⟩
  obtain ⟨sn, hsn⟩ : ∃ x, x = pick8 slots 64 := ⟨_, rfl⟩
  obtain ⟨mn, hmm⟩ : ∃ x, x = pick8 many 6000 := ⟨_, rfl⟩
  have hpnb : 0 ≤ pn ∧ pn < 1048576 := by rw [hpn, pick8]; omega
  have hsnb : 0 ≤ sn ∧ sn < 64 := by rw [hsn, pick8]; omega
  have hmnb : 0 ≤ mn ∧ mn < 6000 := by rw [hmm, pick8]; omega
  obtain ⟨at_, hat⟩ : ∃ x, x = 4096 * pn := ⟨_, rfl⟩
  obtain ⟨va, hva⟩ : ∃ x, x = at_ + 16 := ⟨_, rfl⟩
  obtain ⟨sl, hsl'⟩ : ∃ x, x = 1 + sn := ⟨_, rfl⟩
  obtain ⟨f2, t, hm, hpt, ht8, hwalk⟩ := one_map (v := at_) (ph := 12288) (p := 3) (fr := 3) (by omega) (by decide) (by decide) (by decide)
  obtain ⟨f1, hf1⟩ : ∃ f, f = zeroF (fun _ => 0) 163840 := ⟨_, rfl⟩
  rw [← hf1] at hm
  have hf1ok : MemOk f1 := by rw [hf1]; exact zeroF_ok mem0_ok _
  have hf2ok : MemOk f2 := by have := mapP_ok (n := 64) (base := 163840) (pages := 24) (taken := 1) (root := 163840) (sealed := false) (L := ⟨[at_], [12288], [1], [3]⟩) (m := 1) hf1ok; rw [← hm] at this; exact this
  obtain ⟨g, hg⟩ : ∃ g, g = storeF f2 64 12304 v := ⟨_, rfl⟩
  have hgok : MemOk g := by rw [hg]; exact storeF_ok hf2ok _ _ _
  have hgv : v = w32f g 12304 := by rw [hg, w32_store (by decide) (by decide) hv, if_pos rfl]
  have hw1 := hwalk f2 (fun a ha hb => rfl) va 2 (by omega) (by omega) (by omega) (by decide)
  have hvm : va % 4096 = 16 := by omega
  rw [hvm] at hw1
  obtain ⟨q0, q1, q2⟩ := hpt
  obtain ⟨X, hX⟩ : ∃ X, X = rtE [(1, 163840)] := ⟨_, rfl⟩
  obtain ⟨s1, hs1⟩ : ∃ x : Int × Int, x = (163840 + 4 * (at_ / 4096 / 1024), t + 17) := ⟨_, rfl⟩
  obtain ⟨s2, hs2⟩ : ∃ x : Int × Int, x = (t + 4 * (at_ / 4096 % 1024), encW 1 3 3) := ⟨_, rfl⟩
  rw [← hs1, ← hs2] at hw1
  obtain ⟨C1, hC1⟩ : ∃ C : Ca, C = (accC 16 2 16 (fun _ => []) s1.1 false).2 := ⟨_, rfl⟩
  obtain ⟨C2, hC2⟩ : ∃ C : Ca, C = (accC 16 2 16 C1 s2.1 false).2 := ⟨_, rfl⟩
  obtain ⟨C3, hC3⟩ : ∃ C : Ca, C = (accC 16 2 16 C2 12304 true).2 := ⟨_, rfl⟩
  obtain ⟨C4, hC4⟩ : ∃ C : Ca, C = (accC 16 2 16 C3 12304 false).2 := ⟨_, rfl⟩
  have hl0 : ∀ k, ((((fun _ => []) : Ca) k).length : Int) ≤ 2 := fun k => (by decide : ((0 : Nat) : Int) ≤ 2)
  have hl1 : ∀ k, ((C1 k).length : Int) ≤ 2 := by rw [hC1]; exact fun k => accC_len (by decide) hl0 k
  have hl2 : ∀ k, ((C2 k).length : Int) ≤ 2 := by rw [hC2]; exact fun k => accC_len (by decide) hl1 k
  have hl3 : ∀ k, ((C3 k).length : Int) ≤ 2 := by rw [hC3]; exact fun k => accC_len (by decide) hl2 k
  have hl4 : ∀ k, ((C4 k).length : Int) ≤ 2 := by rw [hC4]; exact fun k => accC_len (by decide) hl3 k
  have hR1 : fP (1 : Int) [((1 : Int), (163840 : Int))] 0 = some (0, 163840) := by decide
  obtain ⟨XE1, hXE1⟩ : ∃ E, E = tlE [((1, pn), (3, 3, 1))] := ⟨_, rfl⟩
  obtain ⟨XE2, hXE2⟩ : ∃ E, E = tlE [((1, pn), (3, 3, 2))] := ⟨_, rfl⟩
  obtain ⟨d1, d2, d3, d4⟩ := dec_page (p := 3) (fr := 3) (by decide) (by decide)
  obtain ⟨c1, hc1⟩ : ∃ x, x = (accC 16 2 16 (fun _ => []) s1.1 false).1.2.2 + (accC 16 2 16 C1 s2.1 false).1.2.2 := ⟨_, rfl⟩
  have hc1b : 0 ≤ c1 ∧ c1 ≤ 40 := by
    have b1 := accC_cost (S := 16) (W := 2) (L := 16) (a := s1.1) (C := fun _ => []) (w := false)
    have b2 := accC_cost (S := 16) (W := 2) (L := 16) (a := s2.1) (C := C1) (w := false)
    omega
  have hpn2 : pn = va / 4096 := by omega
  have hsl2 : 1 ≤ sl ∧ sl ≤ 64 := by omega
  have htr1 : TrS 64 16 2 16 sl f2 X 1 va 2 0 (fun _ => []) [] 12304 c1 0 1 C2 XE1 :=
    tr_miss 4 4 16 2 16 sl 0 1 pn 163840 va 2 12304 f2 (fun _ => []) [(1, 163840)] s1 s2 hf2ok (by decide) (by decide) (by decide) (by decide) (by decide) (by decide) hl0 (by omega) (by decide) hsl2.1 hpn2 hR1
      hw1 (by rw [hs1]; simp only; omega) (by rw [hs2]; simp only; omega) (by rw [hs2]; show 0 ≤ encW 1 3 3 ∧ encW 1 3 3 < 4294967296; decide) (by rw [hs1]; simp only; omega) hC1 hC2 hc1 (by decide) hX rfl (by rw [hXE1, hs2, d3, d4])
  obtain ⟨c2, hc2⟩ : ∃ x, x = (accC 16 2 16 C2 12304 true).1.2.2 := ⟨_, rfl⟩
  have hc2b : 0 ≤ c2 ∧ c2 ≤ 20 := by rw [hc2]; exact accC_cost
  obtain ⟨ht1, bk1, hac1⟩ : ∃ a b, ((a, b, c2), C3) = accC 16 2 16 C2 12304 true := ⟨(accC 16 2 16 C2 12304 true).1.1, (accC 16 2 16 C2 12304 true).1.2.1, by rw [hC3, hc2]⟩
  have hhot3 : Hot 16 16 C3 12304 := by rw [hC3]; exact accC_hot
  have hhot4 : Hot 16 16 C4 12304 := by rw [hC4]; exact accC_hot
  have hkn : knownP 64 3 3 va 1 = (12304, 0) := by rw [knownP, if_neg (by decide), if_neg (by decide), hvm]; rfl
  have htr2 : TrS 64 16 2 16 sl g X 1 va 1 1 C3 XE1 12304 0 0 2 C3 XE2 :=
    tr_hit 4 4 16 2 16 sl 1 1 pn 163840 va 1 12304 0 3 3 1 g C3 [(1, 163840)] hgok (by decide) (by decide) (by decide) (by decide) (by decide) (by decide) hl3 (by omega) (by decide) hpn2 hR1 (by decide) (by decide) hkn (by decide) hX hXE1 hXE2
  obtain ⟨ht2, bk2, hac2⟩ : ∃ a b, ((a, b, (1 : Int)), C4) = accC 16 2 16 C3 12304 false := ⟨true, false, by rw [hC4, ← hhot3.hit (W := 2) (w := false)]⟩
  obtain ⟨ct, hct⟩ : ∃ x, x = c1 + c2 := ⟨_, rfl⟩
  have hva4 : (0 ≤ va ∧ va < 4294967296) ∧ va % 4 = 0 := by omega
  refine Spec1.mk2 rfl fun F => ?_
  refine into Im4ok 6 ?_
  conv => cbv
  refine OkCall.by_spec works_spec [0] (by decide) (by cbv) (by cbv) ?_
  conv => cbv
  refine OkCall.by_spec (pick8_spec page 1048576 hpg (by decide) hpn) [] (by decide) (by cbv) (by cbv) ?_
  conv => cbv
  refine Obs.int (.ex at_) (by show at_ = mulI .u32 (convI .u32 pn) 4096; rw [mulI_eq, convI_eq, wrap_u32, wrap_u32]; omega) ?_
  conv => cbv
  refine OkCall.by_spec (pick8_spec slots 64 hsl (by decide) hsn) [] (by decide) (by cbv) (by cbv) ?_
  conv => cbv
  refine Obs.int (.ex sl) (by show sl = addI .i64 1 sn; rw [addI_eq, IntWalk.i64_in _ (by omega), hsl']) ?_
  conv => cbv
  refine OkCall.by_spec (mapped_spec 4 4 16 2 16 sl at_ 12288 3 f1 f2 (by decide) (by decide) (by decide) (by decide) (by decide) hsl2 hf1 hf1ok (rgs_one (by omega) (by decide) (by decide)) hm hX) [5, 4] (by decide) (by cbv) (by cbv) ?_
  conv => cbv
  refine Obs.int (.ex va) (by show va = addI .u32 at_ 16; rw [addI_eq, wrap_u32, hva]; omega) ?_
  conv => cbv
  refine OkCall.by_spec (store_ok 4 4 64 16 2 16 sl 1 va 0 12304 c1 1 c2 v ct f2 g (fun _ => []) C2 C3 (X := X) (XE := []) (XE2 := XE1) (hit := ht1) (back := bk1) (by decide) (by decide) (by decide) (by decide) (by decide) (by decide) hl2 hva4 htr1 (by decide) (by omega) (by omega) hct hac1 (by decide) hv hg) [13, 8, 9, 11, 12, 10, 0] (by decide) (by cbv) ?_ ?_
  · conv => cbv
    exact ⟨⟨fun j _ => rowS_le (tgs fun _ => []) (dts fun _ => []) (mns fun _ => []) _ j, trivial⟩, trivial⟩
  conv => cbv
  refine Obs.int (.ex va) (by show va = addI .u32 at_ 16; rw [addI_eq, wrap_u32, hva]; omega) ?_
  conv => cbv
  refine OkCall.by_spec (load_ok 4 4 64 16 2 16 sl 1 va 1 12304 0 2 1 v 1 g C3 C3 C4 (X := X) (XE := XE1) (XE2 := XE2) (hit := ht2) (back := bk2) (by decide) (by decide) (by decide) (by decide) (by decide) (by decide) hl3 hva4 htr2 (by decide) (by decide) (by decide) (by decide) hac2 (by decide) hgv) [13, 8, 9, 11, 12, 10, 0] (by decide) (by cbv) ?_ ?_
  · conv => cbv
    exact ⟨⟨fun j _ => rowS_le (tgs C3) (dts C3) (mns C3) _ j, trivial⟩, trivial⟩
  conv => cbv
  refine OkLoop.gen2 fun Q1 hQ1 => ?_
  refine byInv Im4ok 6 O4 (fun a : Int × Int × Ca × List (Value × Value) => ⟨[(17, .i .i64 (.ex a.1)), (11, .p 8 (.at 0)), (10, .i .u32 (.ex at_)), (2, .i .i64 (.ex many)), (3, .i .u32 (.ex v))], [tzB, .abs F, memB 64 g, caC 16 2 16 a.2.2.1, .abs (MP a.2.2.2), tlB 4 sl a.2.1, .abs (MP X), muB 2 3 5 6, .cells 42 [.p 2 (.at 0), .p 3 (.at 0), .p 5 (.at 0), .p 7 (.at 0)]]⟩)
    (fun a => (mn - a.1).toNat) (fun a => (0 ≤ a.1 ∧ a.1 ≤ mn) ∧ a.2.1 = a.1 + 2 ∧ Hot 16 16 a.2.2.1 12304 ∧ (∀ k, ((a.2.2.1 k).length : Int) ≤ 2) ∧ a.2.2.2 = tlE [((1, pn), (3, 3, a.2.1))]) false (0, 2, C4, XE2) (by kernel_rfl) ⟨⟨Int.le_refl _, hmnb.1⟩, rfl, hhot4, hl4, hXE2⟩ (LeSt.mk' [0, 1, 8, 9, 10, 11, 12, 13, 14] (by decide) (by rfl) (by decide) (by cbv) (by (conv => cbv); exact ⟨⟨fun j _ => rowS_le (tgs C4) (dts C4) (mns C4) _ j, trivial⟩, trivial⟩)) ?_
  rintro ⟨i, now, C, XE⟩ ⟨hi, hnow, hhot, hl, hXE⟩
  simp only at hi hnow hhot hl hXE
  obtain ⟨i1, hi1⟩ : ∃ x, x = i + 1 := ⟨_, rfl⟩
  obtain ⟨now1, hnow1⟩ : ∃ x, x = now + 1 := ⟨_, rfl⟩
  obtain ⟨D, hD⟩ : ∃ C' : Ca, C' = (accC 16 2 16 C 12304 false).2 := ⟨_, rfl⟩
  obtain ⟨XE', hXE'⟩ : ∃ E, E = tlE [((1, pn), (3, 3, now1))] := ⟨_, rfl⟩
  have hlD : ∀ k, ((D k).length : Int) ≤ 2 := by rw [hD]; exact fun k => accC_len (by decide) hl k
  have hhotD : Hot 16 16 D 12304 := by rw [hD]; exact accC_hot
  have htr : TrS 64 16 2 16 sl g X 1 va 1 now C XE 12304 0 0 now1 C XE' :=
    tr_hit 4 4 16 2 16 sl now 1 pn 163840 va 1 12304 0 3 3 now g C [(1, 163840)] hgok (by decide) (by decide) (by decide) (by decide) (by decide) (by decide) hl (by omega) (by omega) hpn2 hR1 (by decide) (by decide) hkn hnow1 hX hXE hXE'
  obtain ⟨ht3, bk3, hac3⟩ : ∃ a b, ((a, b, (1 : Int)), D) = accC 16 2 16 C 12304 false := ⟨true, false, by rw [hD, ← hhot.hit (W := 2) (w := false)]⟩
  conv => cbv
  refine OkCall.by_spec (pick8_spec many 6000 hmn (by decide) hmm) [] (by decide) (by cbv) (by cbv) ?_
  conv => cbv
  refine Br.mk (fun hc => ?_) (fun hc => ?_)
  · have hc : i < mn := ltI_t.1 hc
    conv => cbv
    refine Obs.int (.ex va) (by show va = addI .u32 at_ 16; rw [addI_eq, wrap_u32, hva]; omega) ?_
    conv => cbv
    refine OkCall.by_spec (load_ok 4 4 64 16 2 16 sl 1 va now 12304 0 now1 1 v 1 g C C D (X := X) (XE := XE) (XE2 := XE') (hit := ht3) (back := bk3) (by decide) (by decide) (by decide) (by decide) (by decide) (by decide) hl hva4 htr (by decide) (by decide) (by decide) (by decide) hac3 (by decide) hgv) [7, 2, 3, 5, 6, 4, 0] (by decide) (by cbv) ?_ ?_
    · conv => cbv
      exact ⟨⟨fun j _ => rowS_le (tgs C) (dts C) (mns C) _ j, trivial⟩, trivial⟩
    conv => cbv
    refine Br.no (neI_f.2 rfl) ?_
    conv => cbv
    refine Br.no (neI_f.2 rfl) ?_
    conv => cbv
    refine ⟨(i1, now1, D, XE'), ⟨⟨⟨by show 0 ≤ i1; omega, by show i1 ≤ mn; omega⟩, by show now1 = i1 + 2; omega, hhotD, hlD, hXE'⟩, by show (mn - i1).toNat < (mn - i).toNat; omega⟩, _, (HImp.refl _).ext, LeSt.mk' (List.range 9) (by decide) (by rfl) (by decide) ?_ ?_⟩
    · conv => cbv
      refine ⟨?_, trivial⟩
      show i1 = addI .i64 i 1
      rw [addI_eq, IntWalk.i64_in _ (by omega), hi1]
    · conv => cbv
      exact ⟨⟨fun j _ => rowS_le (tgs D) (dts D) (mns D) _ j, trivial⟩, trivial⟩
  · have hc : mn ≤ i := ltI_f.1 hc
    subst hQ1
    conv => cbv
    exact (LeOut.mk' [0, 1] (by decide) (by rfl) (by decide) (by cbv) (by cbv)).two
/-- A law that reads what is laid. -/
def lawG (f : Nat) (hp0 : List Blk) (svs : List SV) (hp : List Blk) : Prop :=
  ∀ A, OkCall kit f svs (hp0 ++ hp ++ [.abs A]) fun q v hp' => leV v (.b (.lit true)) ∧ ∃ x : Nat, hp'[x]? = some (.abs A)
theorem long_walk : opnArgs tab 9 [3, 3, 3, 22] 1 (lawG 4 [tzB]) := by
  conv => cbv
  intro pg hpg
  conv => cbv
  intro sl hsl
  conv => cbv
  intro mn hmn
  conv => cbv
  intro v hv
  conv => cbv
  intro A
  refine OkCall.by_spec (long_tail pg sl mn v (inK_i64 hpg) (inK_i64 hsl) (inK_i64 hmn) (inK_u32 hv)) [0] (by decide) (by cbv) (by cbv) ?_
  conv => cbv
  exact ⟨1, rfl⟩
end Go.Proofs.YtafhmkedblpdlaaDoor
end

/-
  VEX, part H: many packs held as one; one of them lent and given back.
-/
section
namespace Go.Vex
noncomputable section
/-- A pack at a block, or nothing while it is lent. -/
abbrev VE := Option (Nat × (List Blk → Prop))
def VecA (l : List VE) (addr : Option (Nat × Nat)) (o : Own) (w : World) : Prop :=
  ∃ os : List Own, os.length = l.length ∧ o = unionO os ∧ (∀ (j : Nat) a S oj, l[j]? = some (some (a, S)) → os[j]? = some oj → ∀ w', agree oj w w' → AbsP S (some (a, 0)) oj w') ∧
    (∀ (j : Nat) oj, l[j]? = some none → os[j]? = some oj → oj = ⟨[], []⟩) ∧ (∀ (i j : Nat) oi oj, os[i]? = some oi → os[j]? = some oj → ∀ b, b ∈ oi.own → (b ∈ oj.own → i = j) ∧ b ∉ oj.see)
theorem union_set {os : List Own} {j : Nat} {b : Nat} : (b ∈ (unionO (os.set j ⟨[], []⟩)).own → ∃ i oi, i ≠ j ∧ os[i]? = some oi ∧ b ∈ oi.own) ∧ (b ∈ (unionO (os.set j ⟨[], []⟩)).see → ∃ i oi, i ≠ j ∧ os[i]? = some oi ∧ b ∈ oi.see) := by
  constructor
  · intro h
    obtain ⟨o, ho, hb⟩ := mem_unionO.1.1 h
    obtain ⟨i, hi⟩ := List.getElem?_of_mem ho
    by_cases e : j = i
    · subst e
      have hlt : j < os.length := by have := (List.getElem?_eq_some_iff.1 hi).1; simpa using this
      rw [List.getElem?_set_self hlt] at hi; cases hi; simp at hb
    · rw [List.getElem?_set_ne e] at hi; exact ⟨i, o, Ne.symm e, hi, hb⟩
  · intro h
    obtain ⟨o, ho, hb⟩ := mem_unionO.2.1 h
    obtain ⟨i, hi⟩ := List.getElem?_of_mem ho
    by_cases e : j = i
    · subst e
      have hlt : j < os.length := by have := (List.getElem?_eq_some_iff.1 hi).1; simpa using this
      rw [List.getElem?_set_self hlt] at hi; cases hi; simp at hb
    · rw [List.getElem?_set_ne e] at hi; exact ⟨i, o, Ne.symm e, hi, hb⟩
theorem mem_union_at {os : List Own} {i : Nat} {oi : Own} (h : os[i]? = some oi) {b : Nat} : (b ∈ oi.own → b ∈ (unionO os).own) ∧ (b ∈ oi.see → b ∈ (unionO os).see) :=
  ⟨fun hb => mem_unionO.1.2 ⟨oi, List.mem_of_getElem? h, hb⟩, fun hb => mem_unionO.2.2 ⟨oi, List.mem_of_getElem? h, hb⟩⟩
/-- One of the packs is lent. -/
theorem HSat.openV {ρ : Rho} {hp : List Blk} {w : World} {x j a : Nat} {l : List VE} {S : List Blk → Prop} (h : HSat ρ hp w) (hx : hp[x]? = some (.abs (VecA l))) (hj : l[j]? = some (some (a, S))) :
    HSat (ρ ++ [some (a, 0)]) (hp.set x (.abs (VecA (l.set j none))) ++ [.abs (AbsP S)]) w := by
  obtain ⟨ω, h⟩ := h
  have hxl := (List.getElem?_eq_some_iff.1 hx).1
  have hxω : x < ω.length := by rw [h.lenω, ← h.lenh]; exact hxl
  have hxρ : x < ρ.length := by rw [← h.lenh]; exact hxl
  obtain ⟨o, ho⟩ : ∃ o, ω[x]? = some o := ⟨_, List.getElem?_eq_getElem hxω⟩
  obtain ⟨ad, had⟩ : ∃ d, ρ[x]? = some d := ⟨_, List.getElem?_eq_getElem hxρ⟩
  obtain ⟨os, g1, g2, g3, g4, g5⟩ := (show ∀ w', agree o w w' → VecA l ad o w' from h.sat x ad o _ had ho hx) w (agree.refl _ _)
  have hjl := (List.getElem?_eq_some_iff.1 hj).1
  have hjo : j < os.length := by rw [g1]; exact hjl
  obtain ⟨oj, hoj⟩ : ∃ o, os[j]? = some o := ⟨_, List.getElem?_eq_getElem hjo⟩
  have hmem : ∀ b, (b ∈ (unionO (os.set j ⟨[], []⟩)).own → b ∈ o.own ∧ b ∉ oj.own ∧ b ∉ oj.see) ∧ (b ∈ (unionO (os.set j ⟨[], []⟩)).see → b ∈ o.see ∧ b ∉ oj.own) := by
    intro b
    constructor
    · intro hb
      obtain ⟨i, oi, hne, hi, hbi⟩ := union_set.1 hb
      have := g5 i j oi oj hi hoj b hbi
      exact ⟨by rw [g2]; exact (mem_union_at hi).1 hbi, fun hb2 => hne (this.1 hb2), this.2⟩
    · intro hb
      obtain ⟨i, oi, hne, hi, hbi⟩ := union_set.2 hb
      exact ⟨by rw [g2]; exact (mem_union_at hi).2 hbi, fun hb2 => (g5 j i oj oi hoj hi b hb2).2 hbi⟩
  have hlen : (ω.set x (unionO (os.set j ⟨[], []⟩))).length = ρ.length := by rw [List.length_set]; exact h.lenω
  -- what stands where
  have at_ : ∀ y oy, (ω.set x (unionO (os.set j ⟨[], []⟩)) ++ [oj])[y]? = some oy → (y ≠ x ∧ y < ρ.length ∧ ω[y]? = some oy) ∨ (y = x ∧ oy = unionO (os.set j ⟨[], []⟩)) ∨ (y = ρ.length ∧ oy = oj) := by
    intro y oy hy
    rcases Nat.lt_or_ge y ρ.length with hlt | hge
    · rw [List.getElem?_append_left (by rw [hlen]; exact hlt)] at hy
      by_cases e : x = y
      · subst e
        rw [List.getElem?_set_self hxω] at hy; cases hy
        exact .inr (.inl ⟨rfl, rfl⟩)
      · rw [List.getElem?_set_ne e] at hy
        exact .inl ⟨Ne.symm e, hlt, hy⟩
    · rw [List.getElem?_append_right (by rw [hlen]; exact hge), hlen] at hy
      have : y - ρ.length = 0 := by
        have := (List.getElem?_eq_some_iff.1 hy).1
        simp at this; omega
      rw [this] at hy
      simp at hy
      exact .inr (.inr ⟨by omega, hy.symm⟩)
  have ojo : ∀ b, (b ∈ oj.own → b ∈ o.own) ∧ (b ∈ oj.see → b ∈ o.see) := fun b => by rw [g2]; exact mem_union_at hoj
  refine ⟨ω.set x (unionO (os.set j ⟨[], []⟩)) ++ [oj], by simp [h.lenω], by simp [h.lenh], ?_, ?_, ?_⟩
  · intro y ay oy ky h1 h2 h3
    rcases at_ y oy h2 with ⟨hne, hlt, h2⟩ | ⟨rfl, rfl⟩ | ⟨rfl, rfl⟩
    · rw [List.getElem?_append_left hlt] at h1
      rw [List.getElem?_append_left (by rw [List.length_set, h.lenh]; exact hlt), List.getElem?_set_ne (Ne.symm hne)] at h3
      exact (h.sat y ay oy ky h1 h2 h3).mono (Ext.push _ _)
    · rw [List.getElem?_append_left (by rw [List.length_set]; exact hxl), List.getElem?_set_self hxl] at h3
      cases h3
      intro w' hw'
      refine ⟨os.set j ⟨[], []⟩, by simp [g1], rfl, fun i ai Si oi e1 e2 => ?_, fun i oi e1 e2 => ?_, fun i k oi ok e1 e2 b hb => ?_⟩
      · by_cases e : j = i
        · subst e; rw [List.getElem?_set_self hjl] at e1; cases e1
        · rw [List.getElem?_set_ne e] at e1 e2
          intro w2 hw2
          refine g3 i ai Si oi e1 e2 w2 (agree.trans (b := w') (fun b hb => hw' b ?_) hw2)
          rcases hb with hb | hb
          · exact .inl (mem_unionO.1.2 ⟨oi, List.mem_of_getElem? (by rw [List.getElem?_set_ne e]; exact e2), hb⟩)
          · exact .inr (mem_unionO.2.2 ⟨oi, List.mem_of_getElem? (by rw [List.getElem?_set_ne e]; exact e2), hb⟩)
      · by_cases e : j = i
        · subst e; rw [List.getElem?_set_self hjo] at e2; cases e2; rfl
        · rw [List.getElem?_set_ne e] at e1 e2; exact g4 i oi e1 e2
      · by_cases e : j = i
        · subst e; rw [List.getElem?_set_self hjo] at e1; cases e1; simp at hb
        · rw [List.getElem?_set_ne e] at e1
          by_cases e' : j = k
          · subst e'; rw [List.getElem?_set_self hjo] at e2; cases e2; simp
          · rw [List.getElem?_set_ne e'] at e2; exact g5 i k oi ok e1 e2 b hb
    · rw [List.getElem?_append_right (Nat.le_refl _), Nat.sub_self] at h1
      rw [List.getElem?_append_right (by rw [List.length_set, h.lenh]; exact Nat.le_refl _), List.length_set, h.lenh, Nat.sub_self] at h3
      cases h1; cases h3
      exact fun w' hw' => g3 j a S _ hj hoj w' hw'
  · intro y z oy oz h1 h2 b hb
    have key : ∀ y oy, (ω.set x (unionO (os.set j ⟨[], []⟩)) ++ [oj])[y]? = some oy → ∃ y0 oy0, ω[y0]? = some oy0 ∧ (∀ b, b ∈ oy.own → b ∈ oy0.own) ∧ (∀ b, b ∈ oy.see → b ∈ oy0.see) ∧ (y0 = x ∨ y0 = y) := by
      intro y oy hy
      rcases at_ y oy hy with ⟨_, _, h2⟩ | ⟨rfl, rfl⟩ | ⟨rfl, rfl⟩
      · exact ⟨y, oy, h2, fun _ h => h, fun _ h => h, .inr rfl⟩
      · exact ⟨y, o, ho, fun b hb => ((hmem b).1 hb).1, fun b hb => ((hmem b).2 hb).1, .inr rfl⟩
      · exact ⟨x, o, ho, fun b hb => (ojo b).1 hb, fun b hb => (ojo b).2 hb, .inl rfl⟩
    rcases at_ y oy h1 with ⟨n1, l1, k1⟩ | ⟨rfl, rfl⟩ | ⟨rfl, rfl⟩
    · rcases at_ z oz h2 with ⟨n2, l2, k2⟩ | ⟨rfl, rfl⟩ | ⟨rfl, rfl⟩
      · exact h.dis y z oy oz k1 k2 b hb
      · have := h.dis y z oy o k1 ho b hb
        exact ⟨fun hz => this.1 ((hmem b).1 hz).1, fun hz => this.2 ((hmem b).2 hz).1⟩
      · have := h.dis y x oy o k1 ho b hb
        exact ⟨fun hz => absurd (this.1 ((ojo b).1 hz)) n1, fun hz => this.2 ((ojo b).2 hz)⟩
    · have hb' := (hmem b).1 hb
      rcases at_ z oz h2 with ⟨n2, l2, k2⟩ | ⟨rfl, rfl⟩ | ⟨rfl, rfl⟩
      · exact h.dis y z o oz ho k2 b hb'.1
      · exact ⟨fun _ => rfl, fun hz => (h.dis _ _ o o ho ho b hb'.1).2 ((hmem b).2 hz).1⟩
      · exact ⟨fun hz => absurd hz hb'.2.1, hb'.2.2⟩
    · have hb' := (ojo b).1 hb
      rcases at_ z oz h2 with ⟨n2, l2, k2⟩ | ⟨rfl, rfl⟩ | ⟨rfl, rfl⟩
      · have := h.dis x z o oz ho k2 b hb'
        exact ⟨fun hz => absurd (this.1 hz).symm n2, this.2⟩
      · exact ⟨fun hz => absurd hb ((hmem b).1 hz).2.1, fun hz => ((hmem b).2 hz).2 hb⟩
      · exact ⟨fun _ => rfl, (g5 j j _ _ hoj hoj b hb).2⟩
  · intro y oy h1 b hb
    rcases at_ y oy h1 with ⟨n1, l1, k1⟩ | ⟨rfl, rfl⟩ | ⟨rfl, rfl⟩
    · exact h.bnd y oy k1 b hb
    · refine h.bnd y o ho b ?_
      rcases hb with hb | hb
      · exact .inl ((hmem b).1 hb).1
      · exact .inr ((hmem b).2 hb).1
    · refine h.bnd x o ho b ?_
      rcases hb with hb | hb
      · exact .inl ((ojo b).1 hb)
      · exact .inr ((ojo b).2 hb)
theorem union_put {os : List Own} {j : Nat} {oz : Own} {b : Nat} : (b ∈ (unionO (os.set j oz)).own → b ∈ (unionO os).own ∨ b ∈ oz.own) ∧ (b ∈ (unionO (os.set j oz)).see → b ∈ (unionO os).see ∨ b ∈ oz.see) := by
  constructor
  · intro h
    obtain ⟨o, ho, hb⟩ := mem_unionO.1.1 h
    rcases List.mem_or_eq_of_mem_set ho with ho | rfl
    · exact .inl (mem_unionO.1.2 ⟨o, ho, hb⟩)
    · exact .inr hb
  · intro h
    obtain ⟨o, ho, hb⟩ := mem_unionO.2.1 h
    rcases List.mem_or_eq_of_mem_set ho with ho | rfl
    · exact .inl (mem_unionO.2.2 ⟨o, ho, hb⟩)
    · exact .inr hb
/-- A pack is given back. -/
theorem HSat.shutV {ρ : Rho} {hp : List Blk} {w : World} {x z j a : Nat} {l : List VE} {S : List Blk → Prop} (h : HSat ρ hp w) (hx : hp[x]? = some (.abs (VecA l))) (hj : l[j]? = some none) (hz : hp[z]? = some (.abs (AbsP S))) (hxz : x ≠ z) (ha : ρ[z]? = some (some (a, 0))) :
    HSat ρ ((hp.set x (.abs (VecA (l.set j (some (a, S)))))).set z .gone) w := by
  obtain ⟨ω, h⟩ := h
  have hxl := (List.getElem?_eq_some_iff.1 hx).1
  have hzl := (List.getElem?_eq_some_iff.1 hz).1
  have hxω : x < ω.length := by rw [h.lenω, ← h.lenh]; exact hxl
  have hzω : z < ω.length := by rw [h.lenω, ← h.lenh]; exact hzl
  have hxρ : x < ρ.length := by rw [← h.lenh]; exact hxl
  obtain ⟨o, ho⟩ : ∃ o, ω[x]? = some o := ⟨_, List.getElem?_eq_getElem hxω⟩
  obtain ⟨oz, hoz⟩ : ∃ o, ω[z]? = some o := ⟨_, List.getElem?_eq_getElem hzω⟩
  obtain ⟨ad, had⟩ : ∃ d, ρ[x]? = some d := ⟨_, List.getElem?_eq_getElem hxρ⟩
  obtain ⟨os, g1, g2, g3, g4, g5⟩ := (show ∀ w', agree o w w' → VecA l ad o w' from h.sat x ad o _ had ho hx) w (agree.refl _ _)
  have hA : ∀ w', agree oz w w' → AbsP S (some (a, 0)) oz w' := h.sat z _ oz _ ha hoz hz
  have hjl := (List.getElem?_eq_some_iff.1 hj).1
  have hjo : j < os.length := by rw [g1]; exact hjl
  have at_ : ∀ y oy, ((ω.set x (unionO (os.set j oz))).set z ⟨[], []⟩)[y]? = some oy → (y ≠ x ∧ y ≠ z ∧ ω[y]? = some oy) ∨ (y = x ∧ oy = unionO (os.set j oz)) ∨ (y = z ∧ oy = ⟨[], []⟩) := by
    intro y oy hy
    by_cases e : z = y
    · subst e
      rw [List.getElem?_set_self (by rw [List.length_set]; exact hzω)] at hy; cases hy
      exact .inr (.inr ⟨rfl, rfl⟩)
    · rw [List.getElem?_set_ne e] at hy
      by_cases e2 : x = y
      · subst e2
        rw [List.getElem?_set_self hxω] at hy; cases hy
        exact .inr (.inl ⟨rfl, rfl⟩)
      · rw [List.getElem?_set_ne e2] at hy
        exact .inl ⟨Ne.symm e2, Ne.symm e, hy⟩
  have hin : ∀ b, (b ∈ (unionO (os.set j oz)).own → b ∈ o.own ∨ b ∈ oz.own) ∧ (b ∈ (unionO (os.set j oz)).see → b ∈ o.see ∨ b ∈ oz.see) := fun b => by rw [g2]; exact union_put
  refine ⟨(ω.set x (unionO (os.set j oz))).set z ⟨[], []⟩, by simp [h.lenω], by simp [h.lenh], ?_, ?_, ?_⟩
  · intro y ay oy ky h1 h2 h3
    rcases at_ y oy h2 with ⟨n1, n2, h2⟩ | ⟨e1, e2⟩ | ⟨e1, e2⟩
    · rw [List.getElem?_set_ne (Ne.symm n2), List.getElem?_set_ne (Ne.symm n1)] at h3
      exact h.sat y ay oy ky h1 h2 h3
    · subst e1 e2
      rw [List.getElem?_set_ne (Ne.symm hxz), List.getElem?_set_self hxl] at h3
      cases h3
      intro w' hw'
      have hput : ∀ i oi, (os.set j oz)[i]? = some oi → agree oi w w' := fun i oi hi b hb => hw' b (by
        rcases hb with hb | hb
        · exact .inl (mem_unionO.1.2 ⟨oi, List.mem_of_getElem? hi, hb⟩)
        · exact .inr (mem_unionO.2.2 ⟨oi, List.mem_of_getElem? hi, hb⟩))
      refine ⟨os.set j oz, by simp [g1], rfl, fun i ai Si oi e1 e2 => ?_, fun i oi e1 e2 => ?_, fun i k oi ok e1 e2 b hb => ?_⟩
      · have hag := hput i oi e2
        by_cases e : j = i
        · subst e
          rw [List.getElem?_set_self hjl] at e1; cases e1
          rw [List.getElem?_set_self hjo] at e2; cases e2
          exact fun w2 hw2 => hA w2 (hag.trans hw2)
        · rw [List.getElem?_set_ne e] at e1 e2
          exact fun w2 hw2 => g3 i ai Si oi e1 e2 w2 (hag.trans hw2)
      · by_cases e : j = i
        · subst e
          rw [List.getElem?_set_self hjl] at e1; cases e1
        · rw [List.getElem?_set_ne e] at e1 e2; exact g4 i oi e1 e2
      · have sub : ∀ (i : Nat) (oi : Own), os[i]? = some oi → (∀ b, b ∈ oi.own → b ∈ o.own) ∧ ∀ b, b ∈ oi.see → b ∈ o.see := fun i oi hi => by
          rw [g2]; exact ⟨fun b => (mem_union_at hi).1, fun b => (mem_union_at hi).2⟩
        by_cases e : j = i
        · rw [← e, List.getElem?_set_self hjo] at e1; cases e1
          by_cases e' : j = k
          · rw [← e', List.getElem?_set_self hjo] at e2; cases e2
            exact ⟨fun _ => e.symm.trans e', (h.dis z z oz oz hoz hoz b hb).2⟩
          · rw [List.getElem?_set_ne e'] at e2
            have := h.dis z _ oz o hoz ho b hb
            exact ⟨fun hk => absurd (this.1 ((sub k ok e2).1 b hk)).symm hxz, fun hk => this.2 ((sub k ok e2).2 b hk)⟩
        · rw [List.getElem?_set_ne e] at e1
          by_cases e' : j = k
          · rw [← e', List.getElem?_set_self hjo] at e2; cases e2
            have := h.dis _ z o oz ho hoz b ((sub i oi e1).1 b hb)
            exact ⟨fun hk => absurd (this.1 hk) hxz, this.2⟩
          · rw [List.getElem?_set_ne e'] at e2; exact g5 i k oi ok e1 e2 b hb
    · subst e1 e2
      rw [List.getElem?_set_self (by rw [List.length_set]; exact hzl)] at h3
      cases h3; rfl
  · intro y y2 oy oy2 h1 h2 b hb
    rcases at_ y oy h1 with ⟨n1, n2, k1⟩ | ⟨e1, e2⟩ | ⟨e1, e2⟩
    · rcases at_ y2 oy2 h2 with ⟨m1, m2, k2⟩ | ⟨d1, d2⟩ | ⟨d1, d2⟩
      · exact h.dis y y2 oy oy2 k1 k2 b hb
      · have a1 := h.dis y x oy o k1 ho b hb
        have a2 := h.dis y z oy oz k1 hoz b hb
        rw [d2, d1]
        refine ⟨fun hk => ?_, fun hk => ?_⟩
        · rcases (hin b).1 hk with hk | hk
          · exact a1.1 hk
          · exact absurd (a2.1 hk) n2
        · rcases (hin b).2 hk with hk | hk
          · exact a1.2 hk
          · exact a2.2 hk
      · rw [d2]; simp
    · rw [e2] at hb
      rcases at_ y2 oy2 h2 with ⟨m1, m2, k2⟩ | ⟨d1, d2⟩ | ⟨d1, d2⟩
      · rcases (hin b).1 hb with hb | hb
        · have := h.dis x y2 o oy2 ho k2 b hb
          exact ⟨fun hk => absurd (this.1 hk).symm m1, this.2⟩
        · have := h.dis z y2 oz oy2 hoz k2 b hb
          exact ⟨fun hk => absurd (this.1 hk).symm m2, this.2⟩
      · rw [d2]
        refine ⟨fun _ => e1.trans d1.symm, fun hk => ?_⟩
        rcases (hin b).1 hb with hb | hb
        · rcases (hin b).2 hk with hk | hk
          · exact (h.dis x x o o ho ho b hb).2 hk
          · exact (h.dis x z o oz ho hoz b hb).2 hk
        · rcases (hin b).2 hk with hk | hk
          · exact (h.dis z x oz o hoz ho b hb).2 hk
          · exact (h.dis z z oz oz hoz hoz b hb).2 hk
      · rw [d2]; simp
    · rw [e2] at hb; simp at hb
  · intro y oy h1 b hb
    rcases at_ y oy h1 with ⟨n1, n2, k1⟩ | ⟨e1, e2⟩ | ⟨e1, e2⟩
    · exact h.bnd y oy k1 b hb
    · rw [e2] at hb
      rcases hb with hb | hb
      · rcases (hin b).1 hb with hb | hb
        · exact h.bnd x o ho b (.inl hb)
        · exact h.bnd z oz hoz b (.inl hb)
      · rcases (hin b).2 hb with hb | hb
        · exact h.bnd x o ho b (.inr hb)
        · exact h.bnd z oz hoz b (.inr hb)
    · rw [e2] at hb; simp at hb
/-- Room for one more. -/
theorem BImp.moreV {l : List VE} : BImp (.abs (VecA l)) (.abs (VecA (l ++ [none]))) := by
  refine ⟨fun ρ a o w h w' hw' => ?_⟩
  obtain ⟨os, g1, g2, g3, g4, g5⟩ := (show VecA l a o w' from h w' hw')
  have at_ : ∀ (i : Nat) oi, (os ++ [(⟨[], []⟩ : Own)])[i]? = some oi → os[i]? = some oi ∨ (i = os.length ∧ oi = ⟨[], []⟩) := by
    intro i oi hi
    rcases Nat.lt_or_ge i os.length with hlt | hge
    · rw [List.getElem?_append_left hlt] at hi; exact .inl hi
    · have hi' := (List.getElem?_eq_some_iff.1 hi).1
      have : i = os.length := by simp at hi'; omega
      subst this
      rw [List.getElem?_append_right (Nat.le_refl _), Nat.sub_self] at hi
      cases hi; exact .inr ⟨rfl, rfl⟩
  refine ⟨os ++ [⟨[], []⟩], by simp [g1], ?_, fun j a S oj h1 h2 => ?_, fun j oj h1 h2 => ?_, fun i j oi oj h1 h2 b hb => ?_⟩
  · rw [g2]; simp [unionO]
  · rcases at_ j oj h2 with h2 | ⟨e1, e2⟩
    · have hlt := (List.getElem?_eq_some_iff.1 h2).1
      rw [List.getElem?_append_left (by rw [← g1]; exact hlt)] at h1
      exact g3 j a S oj h1 h2
    · subst e1
      rw [List.getElem?_append_right (by rw [g1]; exact Nat.le_refl _), g1, Nat.sub_self] at h1
      cases h1
  · rcases at_ j oj h2 with h2 | ⟨e1, e2⟩
    · have hlt := (List.getElem?_eq_some_iff.1 h2).1
      rw [List.getElem?_append_left (by rw [← g1]; exact hlt)] at h1
      exact g4 j oj h1 h2
    · exact e2
  · rcases at_ i oi h1 with h1 | ⟨e1, e2⟩
    · rcases at_ j oj h2 with h2 | ⟨d1, d2⟩
      · exact g5 i j oi oj h1 h2 b hb
      · rw [d2]; simp
    · rw [e2] at hb; simp at hb
/-- A pointer to one of the packs: the pack is lent. -/
theorem Ok.openV {C : Kit} {nt n0 : Nat} {c : Code} {q : Bool} {fr : Fr} {hp : List Blk} {Q : Bool → Ex → St → Prop} {x j t a : Nat} {l : List VE} {S : List Blk → Prop} (hx : hp[x]? = some (.abs (VecA l))) (hj : l[j]? = some (some (a, S)))
    (ht : look fr t = some (.raw (.pointer (some ⟨a, 0, none⟩)))) (h : Ok C nt n0 c q ⟨(t, .p hp.length (.at 0)) :: fr, hp.set x (.abs (VecA (l.set j none))) ++ [.abs (AbsP S)]⟩ Q) : Ok C nt n0 c q ⟨fr, hp⟩ Q := by
  refine ⟨fun E act w h1 h2 hs => h.out E act w h1 h2 ?_⟩
  obtain ⟨ρ, k1, k2, k3, k4, k5⟩ := hs
  have hl : hp.length = ρ.length := by obtain ⟨ω, hh⟩ := k3; exact hh.lenh
  refine ⟨ρ ++ [some (a, 0)], k1.trans (Ext.push _ _), (k2.mono (Ext.push _ _)).same ht (by intro l h; cases h) (fun c hc => ?_), k3.openV hx hj, k4, k5⟩
  cases hc with
  | raw e =>
    rw [e]
    exact .p a 0 (by rw [hl]; simp) rfl
/-- A pack is given back: what pointed to it points to its block. -/
theorem Ok.shutV {C : Kit} {nt n0 : Nat} {c : Code} {q : Bool} {fr : Fr} {hp : List Blk} {Q : Bool → Ex → St → Prop} {x z j t : Nat} {l : List VE} {S : List Blk → Prop} (hx : hp[x]? = some (.abs (VecA l))) (hj : l[j]? = some none) (hz : hp[z]? = some (.abs (AbsP S))) (hxz : x ≠ z)
    (hS : ∀ l, S l → ∃ T xs r, l = .cells T xs :: r) (ht : look fr t = some (.p z (.at 0)))
    (h : ∀ a, Ok C nt n0 c q ⟨(t, .raw (.pointer (some ⟨a, 0, none⟩))) :: fr, (hp.set x (.abs (VecA (l.set j (some (a, S)))))).set z .gone⟩ Q) : Ok C nt n0 c q ⟨fr, hp⟩ Q := by
  refine ⟨fun E act w h1 h2 hs => ?_⟩
  obtain ⟨ρ, k1, k2, k3, k4, k5⟩ := hs
  have hd := (k2.valN ht (by intro l h; cases h)).2
  have key : ∃ a, ρ[z]? = some (some (a, 0)) := by
    cases hd with
    | p b o0 hb e =>
      obtain ⟨ω, hh⟩ := k3
      have hzl := (List.getElem?_eq_some_iff.1 hz).1
      obtain ⟨o, ho⟩ : ∃ o, ω[z]? = some o := ⟨_, List.getElem?_eq_getElem (by rw [hh.lenω, ← hh.lenh]; exact hzl)⟩
      obtain ⟨l0, hl0, ρ0, ω0, e0, hO, _⟩ := (show ∀ w', agree o w w' → AbsP S (some (b, o0)) o w' from hh.sat z _ o _ hb ho hz) w (agree.refl _ _)
      obtain ⟨T, xs, r, rfl⟩ := hS l0 hl0
      have hlen : 0 < ω0.length := by rw [hO.lenω, ← hO.lenh]; simp
      obtain ⟨cs, _, hc⟩ := hO.sat 0 _ ω0[0] _ e0 (List.getElem?_eq_getElem hlen) rfl
      rcases hc with ⟨_, hc, _⟩ | ⟨b', hc, _⟩
      · cases hc
      · cases hc; exact ⟨_, hb⟩
  obtain ⟨a, ha⟩ := key
  refine (h a).out E act w h1 h2 ⟨ρ, k1, k2.same ht (by intro l h; cases h) (fun c hc => ?_), k3.shutV hx hj hz hxz ha, k4, k5⟩
  cases hc with
  | p b o0 hb e =>
    rw [ha] at hb; cases hb
    exact .raw e
theorem HSat.at_ {ρ : Rho} {hp : List Blk} {w : World} {y : Nat} {k k' : Blk} (h : HSat ρ hp w) (hy : hp[y]? = some k) (hk : ∀ addr o, BSat ρ addr o w k → BSat ρ addr o w k') : HSat ρ (hp.set y k') w := by
  obtain ⟨ω, hs⟩ := h
  refine ⟨ω, hs.lenω, by simp [hs.lenh], ?_, hs.dis, hs.bnd⟩
  intro z a o k2 h1 h2 h3
  by_cases e : y = z
  · subst e
    have hlt := (List.getElem?_eq_some_iff.1 hy).1
    rw [List.getElem?_set_self hlt] at h3; cases h3
    exact hk _ _ (hs.sat y a o k h1 h2 hy)
  · rw [List.getElem?_set_ne e] at h3; exact hs.sat z a o k2 h1 h2 h3
/-- One row of pointers told otherwise. -/
def rowsP (G : Nat → SV) (i : Nat) (v : SV) (k : Nat) : List SV := [if k = i then v else G k]
theorem rowsP_sat {ρ : Rho} {addr : Option (Nat × Nat)} {o : Own} {w : World} {T : TypeId} {n : S Nat} {G : Nat → SV} {r : List SV} {i : Nat} {u v : SV} (hG : G i = u) (hu : ∀ cs, DenL ρ [u] cs → DenL ρ [v] cs) (h : BSat ρ addr o w (.cells T (.rows 1 n (fun k => [G k]) :: r))) :
    BSat ρ addr o w (.cells T (.rows 1 n (rowsP G i v) :: r)) := by
  obtain ⟨cs, hd, hc⟩ := h
  refine ⟨cs, ?_, hc⟩
  cases hd with
  | cons c1 c2 e h1 h2 =>
    refine .cons c1 c2 e ?_ h2
    cases h1 with
    | rows hm hr =>
      refine .rows hm fun j hj => ?_
      have this : DenL ρ [G j] ((c1.drop (j * 1)).take 1) := hr j hj
      unfold rowsP
      by_cases e : j = i
      · subst e; rw [if_pos rfl]; rw [hG] at this; exact hu _ this
      · rw [if_neg e]; exact this
    | one c e2 h3 hx => cases hx
/-- A row that points to one of the packs: the pack is lent. -/
theorem Ok.openR {C : Kit} {nt n0 : Nat} {c : Code} {q : Bool} {fr : Fr} {hp : List Blk} {Q : Bool → Ex → St → Prop} {x y i j a : Nat} {l : List VE} {S : List Blk → Prop} {T : TypeId} {n : Vex.S Nat} {G : Nat → SV} {r : List SV} (hx : hp[x]? = some (.abs (VecA l))) (hj : l[j]? = some (some (a, S)))
    (hxy : x ≠ y) (hy : hp[y]? = some (.cells T (.rows 1 n (fun k => [G k]) :: r))) (hG : G i = .raw (.pointer (some ⟨a, 0, none⟩)))
    (h : Ok C nt n0 c q ⟨fr, (hp.set x (.abs (VecA (l.set j none))) ++ [Blk.abs (AbsP S)]).set y (.cells T (.rows 1 n (rowsP G i (.p hp.length (.at 0))) :: r))⟩ Q) : Ok C nt n0 c q ⟨fr, hp⟩ Q := by
  refine ⟨fun E act w h1 h2 hs => h.out E act w h1 h2 ?_⟩
  obtain ⟨ρ, k1, k2, k3, k4, k5⟩ := hs
  have hl : hp.length = ρ.length := by obtain ⟨ω, hh⟩ := k3; exact hh.lenh
  have hyl := (List.getElem?_eq_some_iff.1 hy).1
  refine ⟨ρ ++ [some (a, 0)], k1.trans (Ext.push _ _), k2.mono (Ext.push _ _), (k3.openV hx hj).at_ (k := .cells T (.rows 1 n (fun k => [G k]) :: r)) ?_ (fun ad o hb => rowsP_sat hG (fun cs hcs => ?_) hb), k4, k5⟩
  · rw [List.getElem?_append_left (by simpa using hyl), List.getElem?_set_ne hxy]; exact hy
  · cases hcs with
    | cons c1 c2 e g1 g2 =>
      refine .cons c1 c2 e ?_ g2
      cases g1 with
      | one v e2 e3 hv =>
        refine .one v e2 e3 ?_
        cases hv with
        | raw e4 => rw [e4]; exact .p a 0 (by rw [hl]; simp) rfl
/-- The pack is given back. -/
theorem Ok.shutR {C : Kit} {nt n0 : Nat} {c : Code} {q : Bool} {fr : Fr} {hp : List Blk} {Q : Bool → Ex → St → Prop} {x y z i j : Nat} {l : List VE} {S : List Blk → Prop} {T : TypeId} {n : Vex.S Nat} {G : Nat → SV} {r : List SV} (hx : hp[x]? = some (.abs (VecA l))) (hj : l[j]? = some none)
    (hz : hp[z]? = some (.abs (AbsP S))) (hxz : x ≠ z) (hxy : x ≠ y) (hzy : z ≠ y) (hy : hp[y]? = some (.cells T (.rows 1 n (fun k => [G k]) :: r))) (hG : G i = .p z (.at 0)) (hi : i < n.val) (hS : ∀ l, S l → ∃ T xs r, l = .cells T xs :: r)
    (h : ∀ a, Ok C nt n0 c q ⟨fr, ((hp.set x (.abs (VecA (l.set j (some (a, S)))))).set z .gone).set y (.cells T (.rows 1 n (rowsP G i (.raw (.pointer (some ⟨a, 0, none⟩)))) :: r))⟩ Q) : Ok C nt n0 c q ⟨fr, hp⟩ Q := by
  refine ⟨fun E act w h1 h2 hs => ?_⟩
  obtain ⟨ρ, k1, k2, k3, k4, k5⟩ := hs
  have key : ∃ a, ρ[z]? = some (some (a, 0)) := by
    obtain ⟨ω, hh⟩ := k3
    have hyl := (List.getElem?_eq_some_iff.1 hy).1
    have hzl := (List.getElem?_eq_some_iff.1 hz).1
    obtain ⟨oy, hoy⟩ : ∃ o, ω[y]? = some o := ⟨_, List.getElem?_eq_getElem (by rw [hh.lenω, ← hh.lenh]; exact hyl)⟩
    obtain ⟨ay, hay⟩ : ∃ d, ρ[y]? = some d := ⟨_, List.getElem?_eq_getElem (by rw [← hh.lenh]; exact hyl)⟩
    obtain ⟨o, ho⟩ : ∃ o, ω[z]? = some o := ⟨_, List.getElem?_eq_getElem (by rw [hh.lenω, ← hh.lenh]; exact hzl)⟩
    obtain ⟨cs, hd, _⟩ := hh.sat y ay oy _ hay hoy hy
    have hp1 : ∃ b o0, ρ[z]? = some (some (b, o0)) := by
      cases hd with
      | cons c1 c2 e g1 g2 =>
        cases g1 with
        | rows hm hr =>
          have hG' : DenL ρ [G i] ((c1.drop (i * 1)).take 1) := hr i hi
          rw [hG] at hG'
          cases hG' with
          | cons d1 d2 e1 e2 e3 =>
            cases e2 with
            | one v f1 f2 hv =>
              cases hv with
              | p b o0 hb f3 => exact ⟨b, o0, hb⟩
        | one v e2 e3 hx => cases hx
    obtain ⟨b, o0, hb⟩ := hp1
    obtain ⟨l0, hl0, ρ0, ω0, e0, hO, _⟩ := (show ∀ w', agree o w w' → AbsP S (some (b, o0)) o w' from hh.sat z _ o _ hb ho hz) w (agree.refl _ _)
    obtain ⟨T', xs, r', rfl⟩ := hS l0 hl0
    have hlen : 0 < ω0.length := by rw [hO.lenω, ← hO.lenh]; simp
    obtain ⟨cs', _, hc⟩ := hO.sat 0 _ ω0[0] _ e0 (List.getElem?_eq_getElem hlen) rfl
    rcases hc with ⟨_, hc, _⟩ | ⟨b', hc, _⟩
    · cases hc
    · cases hc; exact ⟨_, hb⟩
  obtain ⟨a, hr⟩ := key
  refine (h a).out E act w h1 h2 ⟨ρ, k1, k2, (k3.shutV hx hj hz hxz hr).at_ (k := .cells T (.rows 1 n (fun k => [G k]) :: r)) ?_ (fun ad o hb => rowsP_sat hG (fun cs hcs => ?_) hb), k4, k5⟩
  · rw [List.getElem?_set_ne hzy, List.getElem?_set_ne hxy]; exact hy
  · cases hcs with
    | cons c1 c2 e g1 g2 =>
      refine .cons c1 c2 e ?_ g2
      cases g1 with
      | one v e2 e3 hv =>
        refine .one v e2 e3 ?_
        cases hv with
        | p b o0 hb e4 =>
          rw [hr] at hb; cases hb
          exact .raw e4
end
end Go.Vex
end

/-
  MMUMany: shapes; the pack of a set.
-/
section
namespace Go.Proofs.YtafhmkedblpdlaaDoor
open Go Go.Vex
set_option maxRecDepth 20000
set_option maxHeartbeats 4000000
noncomputable def Im8 : FnT := [(8, fi Tryd.f8 ⟨[], 0⟩)]
theorem Im8ok : FnsOk kit Im8 := ⟨fo8 _, trivial⟩
theorem shape8_spec (a b : Int) (ha : -9223372036854775808 ≤ a ∧ a < 9223372036854775808) (hb : -9223372036854775808 ≤ b ∧ b < 9223372036854775808) {e W S : Int} (he : e = pick8 a 4) (hS : S = 2 ^ e.toNat) (hW : W = 1 + pick8 b 3) :
    Spec1 kit 8 [.i .i64 (.ex a), .i .i64 (.ex b)] [] false (.agg [.i .i64 (.ex S), .i .i64 (.ex W), .i .i64 (.lit 16)]) [] [] := by
  obtain ⟨w, hw⟩ : ∃ x, x = pick8 b 3 := ⟨_, rfl⟩
  have heb : 0 ≤ e ∧ e < 4 := by rw [he, pick8]; omega
  have hwb : 0 ≤ w ∧ w < 3 := by rw [hw, pick8]; omega
  refine Spec1.mk2 rfl fun F => ?_
  refine into Im8ok 6 ?_
  conv => cbv
  refine QCall.of_call (.i .i64 (.ex e)) rfl (OkCall.by_spec (pick8_spec a 4 ha (by decide) he) [] (by decide) (by cbv) (by cbv) (by (conv => cbv); trivial)) ?_
  conv => cbv
  refine ⟨geZ.mk heb.1, ?_⟩
  refine QCall.of_call (.i .i64 (.ex w)) rfl (OkCall.by_spec (pick8_spec b 3 hb (by decide) hw) [] (by decide) (by cbv) (by cbv) (by (conv => cbv); trivial)) ?_
  conv => cbv
  refine (LeOut.mk' [0] (by decide) (by rfl) (by decide) ?_ (by cbv)).two
  conv => cbv
  refine ⟨?_, ?_, trivial⟩
  · show S = shlI .i64 1 e
    rw [shlI_eq, hS]
    have : e = 0 ∨ e = 1 ∨ e = 2 ∨ e = 3 := by omega
    rcases this with rfl | rfl | rfl | rfl <;> decide
  · show W = addI .i64 1 w
    rw [addI_eq, IntWalk.i64_in _ (by omega), hW, hw]
/-- The pack of a set. -/
def setSh (S W L sl now : Int) (f : Int → Int) (C : Ca) (X XE : List (Value × Value)) (l : List Blk) : Prop :=
  l = [.cells 42 [.p 1 (.at 0), .p 2 (.at 0), .p 4 (.at 0), .p 6 (.at 0)], memB 64 f, caC S W L C, .abs (MP XE), tlB 3 sl now, .abs (MP X), muB 1 2 4 5]
theorem setSh_head {S W L sl now : Int} {f : Int → Int} {C : Ca} {X XE : List (Value × Value)} (l : List Blk) (h : setSh S W L sl now f C X XE l) : ∃ T xs r, l = .cells T xs :: r := ⟨_, _, _, h⟩
end Go.Proofs.YtafhmkedblpdlaaDoor
end

/-
  MMUMany, plain: a set of one page; what is stored below its tables is loaded.
-/
section
namespace Go.Proofs.YtafhmkedblpdlaaDoor
open Go Go.Vex
set_option maxRecDepth 20000
set_option maxHeartbeats 4000000
/-- What is known of the memory of the set of frame fr in which w was stored. -/
structure ManyG (fr w : Int) (f2 g : Int → Int) : Prop where
  map : (0, f2, 2) = mapP 64 163840 24 1 163840 false (zeroF (fun _ => 0) 163840) ⟨[4194304], [4096 * fr], [1], [1]⟩ 1
  st : g = storeF f2 64 (4096 * fr + 8) w
  load : ∀ (ea : Nat) (S W sl : Int), ea ≤ 8 → S = 2 ^ ea → 1 ≤ W ∧ W ≤ 8 → 1 ≤ sl ∧ sl ≤ 64 → ∃ (ct : Int) (C3 : Ca) (XE2 : List (Value × Value)),
    Spec1 kit 10 [.p 0 (.at 0), .i .i64 (.ex 1), .i .u32 (.ex 4194312), .i .i64 (.lit 4)] (mmB 64 S W 16 sl 0 g (fun _ => []) (rtE [(1, 163840)]) []) false (.tup [.i .u32 (.ex w), .i .i64 (.ex ct), .i .i64 (.lit 0)]) (mmB 64 S W 16 sl 1 g C3 (rtE [(1, 163840)]) XE2) []
theorem many_g {fr w : Int} (hfr : 1 ≤ fr ∧ fr ≤ 30) (hw : 0 ≤ w ∧ w < 4294967296) : ∃ (f2 g : Int → Int), ManyG fr w f2 g := by
  obtain ⟨f2, t, hm, hpt, ht8, hwalk⟩ := one_map (v := 4194304) (ph := 4096 * fr) (p := 1) (fr := fr) (by decide) (by omega) rfl (by decide)
  have hf1ok : MemOk (zeroF (fun _ => 0) 163840) := zeroF_ok mem0_ok _
  have hf2ok : MemOk f2 := by have := mapP_ok (n := 64) (base := 163840) (pages := 24) (taken := 1) (root := 163840) (sealed := false) (L := ⟨[4194304], [4096 * fr], [1], [1]⟩) (m := 1) hf1ok; rw [← hm] at this; exact this
  obtain ⟨ad, had⟩ : ∃ x, x = 4096 * fr + 8 := ⟨_, rfl⟩
  have hwe : wordErr 64 ad = 0 := by unfold wordErr; rw [if_neg (by omega), if_neg (by omega)]
  obtain ⟨g, hg⟩ : ∃ g, g = storeF f2 64 ad w := ⟨_, rfl⟩
  have hgok : MemOk g := by rw [hg]; exact storeF_ok hf2ok _ _ _
  have hgv : w = w32f g ad := by rw [hg, w32_store (by omega) hwe hw, if_pos rfl]
  refine ⟨f2, g, hm, by rw [hg, had], fun ea S W sl ha hS hW hsl => ?_⟩
  have hw1 := hwalk g (fun a ha hb => by rw [hg, w32_store ha hwe hw, if_neg (by omega)]) 4194312 1 (by decide) (by decide) (by decide) (by decide)
  have e8 : fr * 4096 + 4194312 % 4096 = ad := by omega
  rw [e8] at hw1
  obtain ⟨q0, q1, q2⟩ := hpt
  obtain ⟨s1, hs1⟩ : ∃ x : Int × Int, x = (163840 + 4 * (4194304 / 4096 / 1024), t + 17) := ⟨_, rfl⟩
  obtain ⟨s2, hs2⟩ : ∃ x : Int × Int, x = (t + 4 * (4194304 / 4096 % 1024), encW 1 1 fr) := ⟨_, rfl⟩
  rw [← hs1, ← hs2] at hw1
  have henc := encW_u32 (k := 1) (p := 1) (f := fr) (by decide) (by omega)
  have hl0 : ∀ k, ((((fun _ => []) : Ca) k).length : Int) ≤ W := fun k => by show ((0 : Nat) : Int) ≤ W; omega
  obtain ⟨C1, hC1⟩ : ∃ C : Ca, C = (accC S W 16 (fun _ => []) s1.1 false).2 := ⟨_, rfl⟩
  obtain ⟨C2, hC2⟩ : ∃ C : Ca, C = (accC S W 16 C1 s2.1 false).2 := ⟨_, rfl⟩
  obtain ⟨C3, hC3⟩ : ∃ C : Ca, C = (accC S W 16 C2 ad false).2 := ⟨_, rfl⟩
  have hl1 : ∀ k, ((C1 k).length : Int) ≤ W := by rw [hC1]; exact fun k => accC_len hW.1 hl0 k
  have hl2 : ∀ k, ((C2 k).length : Int) ≤ W := by rw [hC2]; exact fun k => accC_len hW.1 hl1 k
  obtain ⟨c1, hc1⟩ : ∃ x, x = (accC S W 16 (fun _ => []) s1.1 false).1.2.2 + (accC S W 16 C1 s2.1 false).1.2.2 := ⟨_, rfl⟩
  have hc1b : 0 ≤ c1 ∧ c1 ≤ 40 := by
    have b1 := accC_cost (S := S) (W := W) (L := 16) (a := s1.1) (C := fun _ => []) (w := false)
    have b2 := accC_cost (S := S) (W := W) (L := 16) (a := s2.1) (C := C1) (w := false)
    omega
  obtain ⟨c2, hc2⟩ : ∃ x, x = (accC S W 16 C2 ad false).1.2.2 := ⟨_, rfl⟩
  have hc2b : 0 ≤ c2 ∧ c2 ≤ 20 := by rw [hc2]; exact accC_cost
  have htr : TrS 64 S W 16 sl g (rtE [(1, 163840)]) 1 4194312 1 0 (fun _ => []) [] ad c1 0 1 C2 (tlE [((1, 1024), (decF s2.2, decP s2.2, 1))]) :=
    tr_miss ea 4 S W 16 sl 0 1 1024 163840 4194312 1 ad g (fun _ => []) [(1, 163840)] s1 s2 hgok (by decide) ha (by decide) hS (by decide) hW hl0 (by decide) (by decide) hsl.1 (by decide) (j := 0) (by decide)
      hw1 (by rw [hs1]; simp only; omega) (by rw [hs2]; simp only; omega) (by rw [hs2]; exact henc) (by rw [hs1]; simp only; omega) hC1 hC2 hc1 (by decide) rfl rfl rfl
  exact ⟨c1 + c2, C3, tlE [((1, 1024), (decF s2.2, decP s2.2, 1))], load_ok ea 4 64 S W 16 sl 1 4194312 0 ad c1 1 c2 w (c1 + c2) g (fun _ => []) C2 C3 (hit := (accC S W 16 C2 ad false).1.1) (back := (accC S W 16 C2 ad false).1.2.1) (by decide) ha (by decide) hS (by decide) hW hl2 (by decide) htr (by omega) (by omega) (by omega) rfl (by rw [hC3, hc2]) hwe hgv⟩
/-- The raw numbers of the i-th set. -/
theorem many_nums {i : Int} (hi : 0 ≤ i ∧ i < 60) : (0 ≤ i % 4 ∧ i % 4 < 4) ∧ (1 ≤ 1 + i % 3 ∧ 1 + i % 3 ≤ 8) ∧ (1 ≤ 1 + i % 9 ∧ 1 + i % 9 ≤ 64) ∧ (1 ≤ 1 + i % 30 ∧ 1 + i % 30 ≤ 30) ∧ pick8 i 4 = i % 4 ∧ pick8 i 3 = i % 3 := by
  refine ⟨by omega, by omega, by omega, by omega, ?_, ?_⟩ <;> · unfold pick8; omega
/-- The memories of all sets. -/
theorem many_all (v : Int) : ∃ (F G : Nat → Int → Int), ∀ i : Nat, i < 60 → ManyG (1 + (i : Int) % 30) ((v + i) % 4294967296) (F i) (G i) := by
  have h : ∀ i : Nat, ∃ p : (Int → Int) × (Int → Int), i < 60 → ManyG (1 + (i : Int) % 30) ((v + i) % 4294967296) p.1 p.2 := fun i => by
    by_cases hi : i < 60
    · obtain ⟨f, g, h⟩ := many_g (fr := 1 + (i : Int) % 30) (w := (v + i) % 4294967296) (by omega) (by omega)
      exact ⟨(f, g), fun _ => h⟩
    · exact ⟨(fun _ => 0, fun _ => 0), fun h => absurd h hi⟩
  obtain ⟨p, hp⟩ := Classical.axiomOfChoice h
  exact ⟨fun i => (p i).1, fun i => (p i).2, hp⟩
end Go.Proofs.YtafhmkedblpdlaaDoor
end

/-
  MMUMany: the walk.
-/
section
namespace Go.Proofs.YtafhmkedblpdlaaDoor
open Go Go.Vex
set_option maxRecDepth 20000
set_option maxHeartbeats 4000000
theorem VecA.nil (ρ : Rho) (w : World) : BSat ρ none ⟨[], []⟩ w (.abs (VecA [])) := fun w' _ =>
  ⟨[], rfl, rfl, fun j a S oj h => by simp at h, fun j oj h => by simp at h, fun i j oi oj h => by simp at h⟩
theorem HExt.addV {hp : List Blk} : HExt hp (hp ++ [.abs (VecA [])]) := ⟨fun ρ w h => ⟨[none], h.addNone VecA.nil⟩⟩
/-- The j-th set, as it was made. -/
def shM (G : Nat → Int → Int) (j : Nat) : List Blk → Prop := setSh (2 ^ (j % 4)) (1 + (j : Int) % 3) 16 (1 + (j : Int) % 9) 0 (G j) (fun _ => []) (rtE [(1, 163840)]) []
theorem shM_head {G : Nat → Int → Int} {j : Nat} : ∀ l, shM G j l → ∃ T xs r, l = .cells T xs :: r := fun l h => setSh_head l h
abbrev MA := Int × Nat × Nat × Nat × List VE × (Nat → SV)
noncomputable def O3b : Opt := ⟨[9, 30, 39, 49, 53, 1000012, 1000018, 1000019, 70, 85], 0⟩
noncomputable def O3 : Opt := ⟨[1000004, 1000014, 1000018, 1000019], 0⟩
noncomputable def Im3 : FnT := [(3, fi Tryd.f3 O3)]
theorem Im3ok : FnsOk kit Im3 := ⟨fo3 _, trivial⟩
theorem manyM_tail (many v : Int) (hmn : -9223372036854775808 ≤ many ∧ many < 9223372036854775808) (hv : 0 ≤ v ∧ v < 4294967296) :
    Spec1 kit 3 [.i .i64 (.ex many), .i .u32 (.ex v)] [tzB] false (.b (.lit true)) [tzB] [] := by
  obtain ⟨n1, hn1⟩ : ∃ x, x = pick8 many 60 := ⟨_, rfl⟩
  have hnb : 0 ≤ n1 ∧ n1 < 60 := by rw [hn1, pick8]; omega
  refine Spec1.mk2 rfl fun F => ?_
  refine into Im3ok 6 ?_
  conv => cbv
  refine OkCall.by_spec works_spec [0] (by decide) (by cbv) (by cbv) ?_
  conv => cbv
  refine OkCall.by_spec (pick8_spec many 60 hmn (by decide) hn1) [] (by decide) (by cbv) (by cbv) ?_
  conv => cbv
  refine Ok.nilSlot 7 0 1 (.cells 26 [.rows 1 (.ex 0) (fun k => [(fun _ => SV.nilp) k]), .junk 1 (.ex 0)]) (by decide) rfl (fun ρ w => ⟨[], .cons [] [] rfl (.rows rfl (fun j hj => absurd hj (Nat.not_lt_zero j))) (.cons [] [] rfl (.junk (by simp) (by simp)) (.nil rfl)), .inl ⟨rfl, rfl, rfl⟩⟩) ?_
  refine Ok.ext HExt.addV ?_
  conv => cbv
  obtain ⟨Fm, Gm, hMany⟩ := many_all v
  obtain ⟨n, hn⟩ : ∃ x, x = 1 + n1 := ⟨_, rfl⟩
  obtain ⟨Sh, hSh⟩ : ∃ x, x = shM Gm := ⟨_, rfl⟩
  have hhead : ∀ j l, Sh j l → ∃ T xs r, l = .cells T xs :: r := by rw [hSh]; exact fun j => shM_head
  refine Ok.weak (st' := ⟨[(7, .slc 2 0 1 (.lit 0) (.ex 0) (.ex 0)), (6, .i .i64 (.ex n)), (5, .b (.lit true)), (1, .i .u32 (.ex v))], [tzB, .abs F, .cells 26 [.rows 1 (.ex 0) (fun k => [SV.nilp]), .junk 1 (.ex 0)], .abs (VecA [])]⟩) (q' := false) (LeSt.mk' [0, 1, 4, 5] (by decide) (by rfl) (by decide) (by (conv => cbv); exact ⟨by show n = addI .i64 1 n1; rw [addI_eq, IntWalk.i64_in _ (by omega), hn], trivial⟩) (by (conv => cbv); exact ⟨⟨fun j hj => absurd hj (Nat.not_lt_zero j), trivial⟩, trivial⟩)) ?_
  refine kcode Im3ok 6 O3b (by kernel_rfl) ?_
  conv => cbv
  refine OkLoop.gen2 fun Q1 hQ1 => ?_
  refine byInv Im3ok 6 O3b (fun a : MA => ⟨[(8, .i .i64 (.ex a.1)), (7, .slc 2 0 1 (.lit 0) (.ex a.2.1) (.ex a.2.2.1)), (6, .i .i64 (.ex n)), (5, .b (.lit true)), (1, .i .u32 (.ex v))], [tzB, .abs F, .cells 26 [.rows 1 (.ex a.2.1) (fun k => [a.2.2.2.2.2 k]), .junk 1 (.ex a.2.2.2.1)], .abs (VecA a.2.2.2.2.1)]⟩)
    (fun a => (n - a.1).toNat) (fun a => a.1 = a.2.1 ∧ a.1 ≤ n ∧ a.2.2.2.2.1.length = a.2.1 ∧ a.2.2.1 = a.2.1 + a.2.2.2.1 ∧ ∀ j, j < a.2.1 → ∃ ad, a.2.2.2.2.1[j]? = some (some (ad, Sh j)) ∧ a.2.2.2.2.2 j = .raw (.pointer (some ⟨ad, 0, none⟩))) false (0, 0, 0, 0, [], fun _ => SV.nilp) (by kernel_rfl) ⟨rfl, by omega, rfl, rfl, fun j hj => absurd hj (Nat.not_lt_zero j)⟩ (LeSt.mk' [0, 1, 2, 3] (by decide) (by rfl) (by decide) (by (conv => cbv); trivial) (by (conv => cbv); exact ⟨⟨fun j hj => absurd hj (Nat.not_lt_zero j), trivial⟩, trivial⟩)) ?_
  rintro ⟨z, i, cap, jk, l, G⟩ ⟨hz, hzn, hl, hcap, hG⟩
  simp only at hz hzn hl hcap hG
  conv => cbv
  refine Br.mk (fun hc => ?_) (fun hc => ?_)
  · have hc : z < n := ltI_t.1 hc
    obtain ⟨fr, hfr⟩ : ∃ x, x = 1 + z % 30 := ⟨_, rfl⟩
    obtain ⟨ph, hph⟩ : ∃ x, x = 4096 * fr := ⟨_, rfl⟩
    obtain ⟨sl, hsl⟩ : ∃ x, x = 1 + z % 9 := ⟨_, rfl⟩
    obtain ⟨e, he⟩ : ∃ x, x = pick8 z 4 := ⟨_, rfl⟩
    obtain ⟨S, hS⟩ : ∃ x : Int, x = 2 ^ e.toNat := ⟨_, rfl⟩
    obtain ⟨W, hW⟩ : ∃ x, x = 1 + pick8 z 3 := ⟨_, rfl⟩
    have rem : ∀ k : Int, 0 < k → remI z k = z % k := fun k hk => by rw [remI_eq, Int.tmod_eq_emod_of_nonneg (by omega)]
    conv => cbv
    refine Obs.int (.ex fr) (by show fr = convI .u32 (addI .i64 1 (remI z 30)); rw [rem 30 (by decide), addI_eq, IntWalk.i64_in _ (by omega), convI_eq, wrap_u32, hfr]; omega) ?_
    conv => cbv
    refine Obs.int (.ex ph) (by show ph = mulI .u32 fr 4096; rw [mulI_eq, wrap_u32, hph]; omega) ?_
    conv => cbv
    refine OkCall.by_spec (shape8_spec z z (by omega) (by omega) he hS hW) [] (by decide) (by cbv) (by cbv) ?_
    conv => cbv
    refine Obs.int (.ex sl) (by show sl = addI .i64 1 (remI z 9); rw [rem 9 (by decide), addI_eq, IntWalk.i64_in _ (by omega), hsl]) ?_
    conv => cbv
    obtain ⟨f1, hf1⟩ : ∃ f, f = zeroF (fun _ => 0) 163840 := ⟨_, rfl⟩
    obtain ⟨f2, hf2⟩ : ∃ f, f = Fm i := ⟨_, rfl⟩
    obtain ⟨g, hg⟩ : ∃ f, f = Gm i := ⟨_, rfl⟩
    obtain ⟨X, hX⟩ : ∃ x, x = rtE [(1, 163840)] := ⟨_, rfl⟩
    have hi60 : i < 60 := by omega
    have hM := hMany i hi60
    rw [← hf2, ← hg, ← hz, ← hfr] at hM
    have hmp := hM.map
    rw [← hf1, ← hph] at hmp
    have hst := hM.st
    rw [← hph] at hst
    have hek : e.toNat ≤ 8 := by have : e = z % 4 := he.trans (many_nums ⟨by omega, by omega⟩).2.2.2.2.1; omega
    have hWk : 1 ≤ W ∧ W ≤ 8 := by have : pick8 z 3 = z % 3 := (many_nums ⟨by omega, by omega⟩).2.2.2.2.2; omega
    have hf1ok : MemOk f1 := by rw [hf1]; exact zeroF_ok mem0_ok _
    refine OkCall.by_spec (mapped_spec e.toNat 4 S W 16 sl 4194304 ph 1 f1 f2 hek (by decide) hS (by decide) hWk (by omega) hf1 hf1ok (rgs_one (by decide) (by omega) (by decide)) hmp hX) [5, 4] (by decide) (by cbv) (by cbv) ?_
    conv => cbv
    obtain ⟨ad, had⟩ : ∃ x, x = ph + 8 := ⟨_, rfl⟩
    obtain ⟨w, hw⟩ : ∃ x, x = (v + z) % 4294967296 := ⟨_, rfl⟩
    rw [← had, ← hw] at hst
    refine Obs.int (.ex ad) (by show ad = addI .u32 (mulI .u32 fr 4096) 8; rw [mulI_eq, addI_eq, wrap_u32, wrap_u32, had, hph]; omega) ?_
    conv => cbv
    refine Obs.int (.ex w) (by show w = addI .u32 v (convI .u32 z); rw [addI_eq, convI_eq, wrap_u32, wrap_u32, hw]; omega) ?_
    conv => cbv
    have hwe : wordErr 64 ad = 0 := by unfold wordErr; rw [if_neg (by omega), if_neg (by omega)]
    refine OkCall.by_spec (store4_spec 64 ad w f2 (by decide) (by omega) (by omega) (e := 0) hwe.symm hst) [8] (by decide) (by cbv) (by cbv) ?_
    conv => cbv
    have hsh : Sh i [.cells 42 [.p 1 (.at 0), .p 2 (.at 0), .p 4 (.at 0), .p 6 (.at 0)], memB 64 g, caC S W 16 (fun _ => []), .abs (MP []), tlB 3 sl 0, .abs (MP X), muB 1 2 4 5] := by
      have e1 : S = 2 ^ (i % 4) := by rw [hS]; congr 1; have : e = z % 4 := he.trans (many_nums ⟨by omega, by omega⟩).2.2.2.2.1; omega
      have e2 : W = 1 + (i : Int) % 3 := by rw [hW, (many_nums ⟨by omega, by omega⟩).2.2.2.2.2, hz]
      have e3 : sl = 1 + (i : Int) % 9 := by rw [hsl, hz]
      rw [hSh]
      unfold shM setSh
      rw [e1, e2, e3, hg, hX]
    refine Ok.imp ((HImp.fold (S := Sh i) 14 [8, 9, 10, 11, 12, 13] _ (by decide) ?_ hsh).trans (HImp.at 3 rfl BImp.moreV)) ?_
    · conv => cbv
      exact ⟨⟨fun j _ => rowS_le (tgs fun _ => []) (dts fun _ => []) (mns fun _ => []) _ j, trivial⟩, trivial⟩
    obtain ⟨l1, hl1⟩ : ∃ x, x = l ++ [none] := ⟨_, rfl⟩
    rw [← hl1]
    conv => cbv
    refine Ok.shutV (x := 3) (z := 14) (j := i) (t := 10) rfl (by rw [hl1, ← hl]; simp) rfl (by decide) (hhead i) rfl fun pa => ?_
    obtain ⟨l2, hl2⟩ : ∃ x, x = l1.set i (some (pa, Sh i)) := ⟨_, rfl⟩
    rw [← hl2]
    conv => cbv
    refine kcode Im3ok 6 ⟨[], 0⟩ (by kernel_rfl) ?_
    conv => cbv
    refine Br.no (neI_f.2 rfl) ?_
    conv => cbv
    refine ⟨by show eqN i i; rw [eqN_eq], by show eqN (addN i jk) cap; rw [eqN_eq, addN_eq]; omega, by show apOk (addN i 1) 8; rw [apOk_eq, addN_eq]; omega, AllN.mk fun cap1 hcap1 => ?_⟩
    have hcap1 : i + 1 ≤ cap1 := by have h : addN i 1 ≤ cap1 := hcap1; rw [addN_eq] at h; exact h
    conv => cbv
    obtain ⟨z1, hz1⟩ : ∃ x, x = z + 1 := ⟨_, rfl⟩
    obtain ⟨i1, hi1⟩ : ∃ x, x = i + 1 := ⟨_, rfl⟩
    obtain ⟨jk1, hjk1⟩ : ∃ x, x = cap1 - i1 := ⟨_, rfl⟩
    obtain ⟨G2, hG2⟩ : ∃ x : Nat → SV, x = fun j => if j < i then G j else .raw (.pointer (some ⟨pa, 0, none⟩)) := ⟨_, rfl⟩
    have hraw : ∀ j : Nat, j < i1 → ∃ ad, l2[j]? = some (some (ad, Sh j)) ∧ G2 j = .raw (.pointer (some ⟨ad, 0, none⟩)) := fun j hji => by
      by_cases hjk : j = i
      · subst hjk
        exact ⟨pa, by rw [hl2]; exact List.getElem?_set_self (by rw [hl1]; simp; omega), by rw [hG2]; simp only [if_neg (Nat.lt_irrefl j)]⟩
      · obtain ⟨ad, h1, h2⟩ := hG j (by omega)
        refine ⟨ad, ?_, by rw [hG2]; simp only [if_pos (show j < i by omega)]; exact h2⟩
        rw [hl2, List.getElem?_set_ne (Ne.symm hjk), hl1, List.getElem?_append_left (by omega)]
        exact h1
    refine ⟨(z1, i1, cap1, jk1, l2, G2), ⟨⟨by show z1 = i1; omega, by show z1 ≤ n; omega, by show l2.length = i1; rw [hl2, hl1]; simp; omega, by show cap1 = i1 + jk1; omega, hraw⟩, by show (n - z1).toNat < (n - z).toNat; omega⟩, _, (HImp.refl _).ext, LeSt.mk' [0, 1, 17, 3] (by decide) (by rfl) (by decide) ?_ ?_⟩
    · conv => cbv
      refine ⟨?_, ?_, trivial⟩
      · show z1 = addI .i64 z 1
        rw [addI_eq, IntWalk.i64_in _ (by omega), hz1]
      · refine ⟨?_, trivial⟩
        show i1 = addN i 1
        rw [addN_eq, hi1]
    · conv => cbv
      refine ⟨⟨⟨?_, fun j hji => ?_⟩, ?_, trivial⟩, trivial⟩
      · show i1 = addN i 1
        rw [addN_eq, hi1]
      · have hji : j < addN i 1 := hji
        rw [addN_eq] at hji
        obtain ⟨ad, _, e⟩ := hraw j (by omega)
        show leL (jn (fun k => [G k]) (fun _ => [.raw (.pointer (some ⟨pa, 0, none⟩))]) i j) (renL _ [G2 j])
        rw [jn_eq, e]
        rw [hG2] at e
        simp only at e ⊢
        split at e
        · rename_i h; rw [if_pos h, e]; exact ⟨rfl, trivial⟩
        · rename_i h; rw [if_neg h, e]; exact ⟨rfl, trivial⟩
      · show jk1 = subN cap1 (addN i 1)
        rw [subN_eq, addN_eq, hjk1, hi1]
  · have hc : n ≤ z := ltI_f.1 hc
    have hzn2 : z = n := by omega
    subst hQ1
    conv => cbv
    refine OkLoop.gen2 fun Q1 hQ1 => ?_
    refine byInv Im3ok 6 O3b (fun a : Int × List VE × (Nat → SV) => ⟨[(12, .i .i64 (.ex a.1)), (7, .slc 2 0 1 (.lit 0) (.ex i) (.ex cap)), (6, .i .i64 (.ex n)), (5, .b (.lit true)), (1, .i .u32 (.ex v))], [tzB, .abs F, .cells 26 [.rows 1 (.ex i) (fun k => [a.2.2 k]), .junk 1 (.ex jk)], .abs (VecA a.2.1)]⟩)
      (fun a => (n - a.1).toNat) (fun a => (0 ≤ a.1 ∧ a.1 ≤ n) ∧ ∀ j : Nat, j < i → ∃ ad, (a.1 ≤ j → a.2.1[j]? = some (some (ad, Sh j))) ∧ a.2.2 j = .raw (.pointer (some ⟨ad, 0, none⟩))) false (0, l, G) (by kernel_rfl) ⟨⟨Int.le_refl _, by omega⟩, fun j hj => by obtain ⟨ad, h1, h2⟩ := hG j hj; exact ⟨ad, fun _ => h1, h2⟩⟩ (LeSt.mk' [0, 1, 2, 3] (by decide) (by rfl) (by decide) (by (conv => cbv); trivial) (by (conv => cbv); exact ⟨⟨fun j hj => by obtain ⟨_, _, e⟩ := hG j hj; show leL [G j] (renL _ [G j]); rw [e]; exact ⟨rfl, trivial⟩, trivial⟩, trivial⟩)) ?_
    rintro ⟨y, m, H⟩ ⟨hy, hH⟩
    simp only at hy hH
    conv => cbv
    refine Br.mk (fun hc => ?_) (fun hc => ?_)
    · have hc : y < n := ltI_t.1 hc
      obtain ⟨k, hk⟩ : ∃ k : Nat, y = k := ⟨y.toNat, by omega⟩
      have hki : k < i := by omega
      obtain ⟨pa, hm1, hH1⟩ := hH k hki
      have hm1 := hm1 (by omega)
      conv => cbv
      refine Ok.openR (x := 3) (y := 2) (i := k) (j := k) rfl hm1 (by decide) rfl hH1 ?_
      obtain ⟨m1, hm1'⟩ : ∃ x, x = m.set k none := ⟨_, rfl⟩
      obtain ⟨H1, hH1'⟩ : ∃ x, x = rowsP H k (.p 4 (.at 0)) := ⟨_, rfl⟩
      rw [← hm1']
      show Ok kit _ _ _ _ ⟨_, [tzB, .abs F, .cells 26 [.rows 1 (.ex i) (rowsP H k (.p 4 (.at 0))), .junk 1 (.ex jk)], .abs (VecA m1), .abs (AbsP (Sh k))]⟩ _
      rw [← hH1']
      refine Ok.unfold 4 rfl fun L hL => ?_
      rw [hSh] at hL
      unfold shM setSh at hL
      subst hL
      obtain ⟨S, hS⟩ : ∃ x : Int, x = 2 ^ (k % 4) := ⟨_, rfl⟩
      obtain ⟨W, hW⟩ : ∃ x : Int, x = 1 + (k : Int) % 3 := ⟨_, rfl⟩
      obtain ⟨sl, hsl⟩ : ∃ x : Int, x = 1 + (k : Int) % 9 := ⟨_, rfl⟩
      obtain ⟨g, hg⟩ : ∃ x, x = Gm k := ⟨_, rfl⟩
      obtain ⟨X, hX⟩ : ∃ x, x = rtE [(1, 163840)] := ⟨_, rfl⟩
      rw [← hS, ← hW, ← hsl, ← hg, ← hX]
      have hHk : ∀ j, toN y = j → H1 j = [.p 4 (.at 0)] := fun j hj => by
        rw [toN_eq] at hj
        rw [hH1', rowsP, if_pos (by omega)]
      refine kcode Im3ok 6 ⟨[1000019], 0⟩ (by kernel_rfl) ?_
      conv => cbv
      refine ⟨inR.mk (by omega) (by omega), nLt.mk (by show toN y < i; rw [toN_eq]; omega), ?_⟩
      generalize hrow : H1 _ = row
      obtain rfl : row = [.p 4 (.at 0)] := by rw [← hrow]; exact hHk _ rfl
      conv => cbv
      have hk60 : k < 60 := by omega
      have hM := hMany k hk60
      obtain ⟨w, hw⟩ : ∃ x, x = (v + y) % 4294967296 := ⟨_, rfl⟩
      rw [← hk, ← hg, ← hw] at hM
      obtain ⟨ct, C3, XE2, hld⟩ := hM.load (k % 4) S W sl (by omega) hS (by omega) (by omega)
      rw [← hX] at hld
      refine OkCall.by_spec hld [10, 5, 6, 8, 9, 7, 0] (by decide) (by cbv) ?_ ?_
      · conv => cbv
        exact ⟨⟨fun j _ => rowS_le (tgs fun _ => []) (dts fun _ => []) (mns fun _ => []) _ j, trivial⟩, trivial⟩
      conv => cbv
      obtain ⟨S2, hS2⟩ : ∃ x, x = setSh S W 16 sl 1 g C3 X XE2 := ⟨_, rfl⟩
      refine Ok.imp (HImp.fold (S := S2) 4 [5, 6, 7, 8, 9, 10] [.cells 42 [.p 1 (.at 0), .p 2 (.at 0), .p 4 (.at 0), .p 6 (.at 0)], memB 64 g, caC S W 16 C3, .abs (MP XE2), tlB 3 sl 1, .abs (MP X), muB 1 2 4 5] (by decide) ?_ (by rw [hS2]; rfl)) ?_
      · conv => cbv
        exact ⟨⟨fun j _ => rowS_le (tgs C3) (dts C3) (mns C3) _ j, trivial⟩, trivial⟩
      conv => cbv
      refine Ok.shutR (x := 3) (y := 2) (z := 4) (i := k) (j := k) (G := fun j => if j = k then .p 4 (.at 0) else H j) rfl (by rw [hm1']; exact List.getElem?_set_self (List.getElem?_eq_some_iff.1 hm1).1) rfl (by decide) (by decide) (by decide) (by rw [hH1']; rfl) (if_pos rfl) (by exact hki) (by rw [hS2]; exact fun l => setSh_head l) fun pb => ?_
      obtain ⟨m2, hm2⟩ : ∃ x, x = m1.set k (some (pb, S2)) := ⟨_, rfl⟩
      rw [← hm2]
      obtain ⟨H2, hH2⟩ : ∃ x : Nat → SV, x = fun j => if j = k then .raw (.pointer (some ⟨pb, 0, none⟩)) else (fun j => if j = k then .p 4 (.at 0) else H j) j := ⟨_, rfl⟩
      obtain ⟨H3, hH3⟩ : ∃ x : Nat → List SV, x = fun j => [H2 j] := ⟨_, rfl⟩
      have e3 : rowsP (fun j => if j = k then .p 4 (.at 0) else H j) k (.raw (.pointer (some ⟨pb, 0, none⟩))) = H3 := by rw [hH3, hH2]; rfl
      rw [e3]
      refine kcode Im3ok 6 ⟨[85], 0⟩ (by kernel_rfl) ?_
      conv => cbv
      refine Obs.int (.ex w) (by show w = addI .u32 v (convI .u32 y); rw [addI_eq, convI_eq, wrap_u32, wrap_u32, hw]; omega) ?_
      conv => cbv
      refine Br.no (neI_f.2 rfl) ?_
      conv => cbv
      obtain ⟨y1, hy1⟩ : ∃ x, x = y + 1 := ⟨_, rfl⟩
      have hraw : ∀ j : Nat, j < i → ∃ ad, (y1 ≤ j → m2[j]? = some (some (ad, Sh j))) ∧ H2 j = .raw (.pointer (some ⟨ad, 0, none⟩)) := fun j hji => by
        by_cases hjk : j = k
        · exact ⟨pb, fun h => by omega, by rw [hH2]; simp only [if_pos hjk]⟩
        · obtain ⟨ad, h1, h2⟩ := hH j hji
          refine ⟨ad, fun h => ?_, by rw [hH2]; simp only [if_neg hjk]; exact h2⟩
          rw [hm2, hm1', List.getElem?_set_ne (Ne.symm hjk), List.getElem?_set_ne (Ne.symm hjk)]
          exact h1 (by omega)
      refine ⟨(y1, m2, H2), ⟨⟨⟨by show 0 ≤ y1; omega, by show y1 ≤ n; omega⟩, hraw⟩, by show (n - y1).toNat < (n - y).toNat; omega⟩, _, (HImp.refl _).ext, LeSt.mk' (List.range 4) (by decide) (by rfl) (by decide) ?_ ?_⟩
      · conv => cbv
        refine ⟨?_, trivial⟩
        show y1 = addI .i64 y 1
        rw [addI_eq, IntWalk.i64_in _ (by omega), hy1]
      · conv => cbv
        refine ⟨⟨fun j hji => ?_, trivial⟩, trivial⟩
        obtain ⟨ad, _, e⟩ := hraw j hji
        show leL (H3 j) (renL _ [H2 j])
        rw [hH3]
        show leL [H2 j] (renL _ [H2 j])
        rw [e]
        exact ⟨rfl, trivial⟩
    · have hc : n ≤ y := ltI_f.1 hc
      subst hQ1
      conv => cbv
      exact (LeOut.mk' [0, 1] (by decide) (by rfl) (by decide) (by cbv) (by cbv)).two
theorem manyM_walk : opnArgs tab 9 [3, 22] 1 (lawG 3 [tzB]) := by
  conv => cbv
  intro mn hmn
  conv => cbv
  intro v hv
  conv => cbv
  intro A
  refine OkCall.by_spec (manyM_tail mn v (inK_i64 hmn) (inK_u32 hv)) [0] (by decide) (by cbv) (by cbv) ?_
  conv => cbv
  exact ⟨1, rfl⟩
end Go.Proofs.YtafhmkedblpdlaaDoor
end
