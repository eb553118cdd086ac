/-
  Joined: PL K1 AL PA RP N2 N3 E3 N4 B1 LB S1 PS AG AH EN.
-/
import Derived.Test.YtnefllaeleihcaaZ5
import Derived.Test.YtnefllaeleihcaaZ4
import Derived.Test.YtnefllaeleihcaaZ3
set_option linter.unusedVariables false
set_option linter.unusedSimpArgs false
/-
  Plain: what a space's tables are, and what Map makes of them. No program in sight.
-/
section
namespace Go.Proofs.Ytnefllaeleihcaa
open Go Go.Vex
set_option maxHeartbeats 4000000
/-! ### Words -/
theorem w32_splice {f : Int → Int} {a t v : Int} (ha : a % 4 = 0) (ht : t % 4 = 0) (hv : 0 ≤ v ∧ v < 4294967296) : w32f (spliceF f t (b4 v)) a = if a = t then v else w32f f a := by
  have hin : ∀ x : Int, t ≤ x → x < t + 4 → spliceF f t (b4 v) x = (b4 v).getD (x - t).toNat 0 := fun x h1 h2 => by
    rw [spliceF, if_pos ⟨h1, by simp [b4]; omega⟩]
  have hout : ∀ x : Int, (x < t ∨ t + 4 ≤ x) → spliceF f t (b4 v) x = f x := fun x h => by
    rw [spliceF, if_neg (by simp [b4]; omega)]
  unfold w32f
  by_cases h : a = t
  · subst h
    rw [if_pos rfl, hin a (by omega) (by omega), hin (a + 1) (by omega) (by omega), hin (a + 2) (by omega) (by omega), hin (a + 3) (by omega) (by omega)]
    rw [show (a - a).toNat = 0 by omega, show (a + 1 - a).toNat = 1 by omega, show (a + 2 - a).toNat = 2 by omega, show (a + 3 - a).toNat = 3 by omega]
    show v % 256 + 256 * (v / 256 % 256) + 65536 * (v / 65536 % 256) + 16777216 * (v / 16777216 % 256) = v
    omega
  · rw [if_neg h, hout a (by omega), hout (a + 1) (by omega), hout (a + 2) (by omega), hout (a + 3) (by omega)]
theorem w32_store {f : Int → Int} {n a t v : Int} (ha : a % 4 = 0) (ht : wordErr n t = 0) (hv : 0 ≤ v ∧ v < 4294967296) : w32f (storeF f n t v) a = if a = t then v else w32f f a := by
  rw [storeF, if_pos ht]
  refine w32_splice ha ?_ hv
  unfold wordErr at ht; split at ht <;> omega
theorem w32_zero {f : Int → Int} {a t : Int} (ha : a % 4 = 0) (ht : t % 4096 = 0) : w32f (zeroF f t) a = if t ≤ a ∧ a < t + 4096 then 0 else w32f f a := by
  unfold w32f zeroF
  by_cases h : t ≤ a ∧ a < t + 4096
  · rw [if_pos h, if_pos h, if_pos (by omega), if_pos (by omega), if_pos (by omega)]; decide
  · rw [if_neg h, if_neg h, if_neg (by omega), if_neg (by omega), if_neg (by omega)]
/-- A page of a memory. -/
def Pg (n t : Int) : Prop := 0 ≤ t ∧ t % 4096 = 0 ∧ t + 4096 ≤ 4096 * n
theorem Pg.err {n t i : Int} (h : Pg n t) (hi : 0 ≤ i ∧ i < 1024) : wordErr n (t + 4 * i) = 0 := by
  obtain ⟨h0, h1, h2⟩ := h
  rw [wordErr, if_neg (by omega), if_neg (by omega)]
theorem Pg.ok {n t i : Int} (hn : n ≤ 4096) (h : Pg n t) (hi : 0 ≤ i ∧ i < 1024) : wOk n t i = true := by
  have := h.err hi
  obtain ⟨h0, h1, h2⟩ := h
  rw [wOk, decide_eq_true_eq]; exact ⟨by omega, this⟩
theorem Pg.wW {n t i : Int} {f : Int → Int} (hn : n ≤ 4096) (h : Pg n t) (hi : 0 ≤ i ∧ i < 1024) : wW n f t i = w32f f (t + 4 * i) := by
  rw [Proofs.Ytnefllaeleihcaa.wW, if_pos (h.ok hn hi)]
/-! ### Entries -/
theorem permOk_bd {p : Int} (h : permOk p = true) : 1 ≤ p ∧ p ≤ 7 := by
  have := permOk_iff.1 h; omega
theorem encE1 {p fr : Int} : encE 1 p fr = 0 ↔ permOk p = true ∧ fr ≤ 4095 := by
  rw [encE, if_neg (by decide), if_pos rfl]
  by_cases h : permOk p = true
  · rw [if_pos h]; by_cases h2 : 4095 < fr <;> simp [h, h2] <;> omega
  · rw [if_neg h]; simp [h]
theorem encW1 {p fr : Int} (h : encE 1 p fr = 0) : encW 1 p fr = 4096 * fr + 2 * p + 1 := by
  rw [encW, if_neg (by simp [h]), if_neg (by decide), if_pos rfl]
theorem dec_page {p fr : Int} (h : encE 1 p fr = 0) (hf : 0 ≤ fr) : decE (encW 1 p fr) = 0 ∧ decK (encW 1 p fr) = 1 ∧ decP (encW 1 p fr) = p ∧ decF (encW 1 p fr) = fr := by
  have h2 := encE1.1 h
  have hp := permOk_bd h2.1
  have e1 : decE (encW 1 p fr) = 0 := by
    rw [encW1 h, decE, if_neg (by omega), if_neg (by omega), if_neg (by omega), if_neg (by omega)]
    rw [show (4096 * fr + 2 * p + 1) % 16 / 2 = p by omega, show (4096 * fr + 2 * p + 1) / 4096 = fr by omega]; exact h
  refine ⟨e1, ?_, ?_, ?_⟩
  · rw [decK, if_neg (by rw [encW1 h]; omega), if_neg (by simp [e1]), encW1 h, if_neg (by omega)]
  · rw [decP, if_neg (by simp [e1]), encW1 h]; omega
  · rw [decF, if_neg (by simp [e1]), encW1 h]; omega
theorem dec_tab {n t : Int} (hn : n ≤ 4096) (h : Pg n t) : decE (t + 17) = 0 ∧ decK (t + 17) = 2 ∧ decF (t + 17) = t / 4096 := by
  obtain ⟨h0, h1, h2⟩ := h
  have e1 : decE (t + 17) = 0 := by
    rw [decE, if_neg (by omega), if_neg (by omega), if_neg (by omega), if_pos (by omega)]
    rw [show (t + 17) % 16 / 2 = 0 by omega, encE, if_neg (by decide), if_neg (by decide), if_pos rfl, if_neg (by simp), if_neg (by omega)]
  refine ⟨e1, ?_, ?_⟩
  · rw [decK, if_neg (by omega), if_neg (by simp [e1]), if_pos (by omega)]
  · rw [decF, if_neg (by simp [e1])]; omega
theorem encW2 {n t : Int} (hn : n ≤ 4096) (h : Pg n t) : encW 2 0 (t / 4096) = t + 17 := by
  obtain ⟨h0, h1, h2⟩ := h
  rw [encW, if_neg (by rw [encE, if_neg (by decide), if_neg (by decide), if_pos rfl, if_neg (by simp), if_neg (by omega)]; simp), if_neg (by decide), if_neg (by decide)]; omega
/-! ### A space: its tables, and what is mapped in it -/
structure SpInv (n : Int) (f : Int → Int) (R : Int) (tb : Int → Option Int) (M : Int → Int → Int) : Prop where
  pr : Pg n R
  rw' : ∀ i, 0 ≤ i → i < 1024 → w32f f (R + 4 * i) = match tb i with
    | none => 0
    | some t => t + 17
  pt : ∀ i t, tb i = some t → Pg n t ∧ t ≠ R
  inj : ∀ i j t, tb i = some t → tb j = some t → i = j
  tw : ∀ i t j, tb i = some t → 0 ≤ j → j < 1024 → w32f f (t + 4 * j) = M i j
  mz : ∀ i j, tb i = none → M i j = 0
  me : ∀ i j, M i j = 0 ∨ ∃ p fr, encE 1 p fr = 0 ∧ 0 ≤ fr ∧ M i j = encW 1 p fr
/-- No table yet. -/
theorem SpInv.new {n R : Int} {f : Int → Int} (h : Pg n R) (hz : ∀ i, 0 ≤ i → i < 1024 → w32f f (R + 4 * i) = 0) : SpInv n f R (fun _ => none) (fun _ _ => 0) :=
  ⟨h, hz, fun i t h => (by cases h), fun i j t h => (by cases h), fun i t j h => (by cases h), fun _ _ _ => rfl, fun _ _ => .inl rfl⟩
/-- What is written elsewhere does not matter. -/
theorem SpInv.elsewhere {n R : Int} {f g : Int → Int} {tb : Int → Option Int} {M : Int → Int → Int} (h : SpInv n f R tb M) (hR : ∀ j, 0 ≤ j → j < 1024 → w32f g (R + 4 * j) = w32f f (R + 4 * j))
    (ht : ∀ i t j, tb i = some t → 0 ≤ j → j < 1024 → w32f g (t + 4 * j) = w32f f (t + 4 * j)) : SpInv n g R tb M :=
  ⟨h.pr, fun i h0 h1 => by rw [hR i h0 h1]; exact h.rw' i h0 h1, h.pt, h.inj, fun i t j hi h0 h1 => by rw [ht i t j hi h0 h1]; exact h.tw i t j hi h0 h1, h.mz, h.me⟩
def setT (tb : Int → Option Int) (x t : Int) (i : Int) : Option Int := if i = x then some t else tb i
def setM (M : Int → Int → Int) (x : Int × Int) (w : Int) (i j : Int) : Int := if i = x.1 ∧ j = x.2 then w else M i j
theorem pg_word {n t u i j : Int} (ht : t % 4096 = 0) (hu : u % 4096 = 0) (hi : 0 ≤ i ∧ i < 1024) (hj : 0 ≤ j ∧ j < 1024) : t + 4 * i = u + 4 * j ↔ t = u ∧ i = j := by omega
/-- A table more. -/
theorem SpInv.table {n R : Int} {f : Int → Int} {tb : Int → Option Int} {M : Int → Int → Int} (hn : n ≤ 4096) (h : SpInv n f R tb M) {x t : Int} (hx : 0 ≤ x ∧ x < 1024) (hnone : tb x = none) (ht : Pg n t) (hR : t ≠ R) (hT : ∀ i u, tb i = some u → u ≠ t) :
    SpInv n (layF n (zeroF f t) R x 2 0 (t / 4096)) R (setT tb x t) M := by
  obtain ⟨r0, r1, r2⟩ := h.pr
  have ht' := ht
  obtain ⟨t0, t1, t2⟩ := ht
  have hw : ∀ a, a % 4 = 0 → w32f (layF n (zeroF f t) R x 2 0 (t / 4096)) a = if a = R + 4 * x then t + 17 else if t ≤ a ∧ a < t + 4096 then 0 else w32f f a := fun a ha => by
    rw [layF, wrap_u32, show (R + 4 * x) % 4294967296 = R + 4 * x by omega, encW2 hn ht', w32_store ha (h.pr.err hx) (by omega), w32_zero ha t1]
  refine ⟨h.pr, fun i h0 h1 => ?_, fun i u hi => ?_, fun i j u hi hj => ?_, fun i u j hi h0 h1 => ?_, fun i j hi => ?_, h.me⟩
  · rw [hw _ (by omega)]
    by_cases e : i = x
    · rw [if_pos (by omega), setT, if_pos e]
    · rw [if_neg (by omega), if_neg (by omega), setT, if_neg e]; exact h.rw' i h0 h1
  · unfold setT at hi
    split at hi
    · cases hi; exact ⟨⟨t0, t1, t2⟩, hR⟩
    · exact h.pt i u hi
  · unfold setT at hi hj
    split at hi <;> split at hj
    · omega
    · cases hi; exact absurd rfl (hT j _ hj)
    · cases hj; exact absurd rfl (hT i _ hi)
    · exact h.inj i j u hi hj
  · unfold setT at hi
    split at hi
    · cases hi
      rename_i e
      rw [hw _ (by omega), if_neg (by omega), if_pos (by omega), e, h.mz x j hnone]
    · obtain ⟨⟨u0, u1, u2⟩, hu⟩ := h.pt i u hi
      have hut := hT i u hi
      rw [hw _ (by omega), if_neg (by omega), if_neg (by omega)]
      exact h.tw i u j hi h0 h1
  · unfold setT at hi
    split at hi
    · cases hi
    · exact h.mz i j hi
/-- A page more. -/
theorem SpInv.page {n R : Int} {f : Int → Int} {tb : Int → Option Int} {M : Int → Int → Int} (hn : n ≤ 4096) (h : SpInv n f R tb M) {x : Int × Int} {t p fr : Int} (hx : 0 ≤ x.2 ∧ x.2 < 1024) (ht : tb x.1 = some t) (he : encE 1 p fr = 0) (hf : 0 ≤ fr) :
    SpInv n (layF n f t x.2 1 p fr) R tb (setM M x (encW 1 p fr)) := by
  obtain ⟨r0, r1, r2⟩ := h.pr
  obtain ⟨ht', htR⟩ := h.pt _ _ ht
  have hpt := ht'
  obtain ⟨t0, t1, t2⟩ := ht'
  have h2 := encE1.1 he
  have hp := permOk_bd h2.1
  have hw : ∀ a, a % 4 = 0 → w32f (layF n f t x.2 1 p fr) a = if a = t + 4 * x.2 then encW 1 p fr else w32f f a := fun a ha => by
    rw [layF, wrap_u32, show (t + 4 * x.2) % 4294967296 = t + 4 * x.2 by omega, w32_store ha (hpt.err hx) (by rw [encW1 he]; omega)]
  refine ⟨h.pr, fun i h0 h1 => ?_, h.pt, h.inj, fun i u j hi h0 h1 => ?_, fun i j hi => ?_, fun i j => ?_⟩
  · rw [hw _ (by omega), if_neg (by omega)]; exact h.rw' i h0 h1
  · obtain ⟨⟨u0, u1, u2⟩, hu⟩ := h.pt i u hi
    rw [hw _ (by omega), setM]
    by_cases e : i = x.1 ∧ j = x.2
    · rw [if_pos e]
      have : u = t := by rw [e.1, ht] at hi; cases hi; rfl
      rw [if_pos (by omega)]
    · rw [if_neg e, if_neg (fun e2 => ?_)]
      · exact h.tw i u j hi h0 h1
      · have e3 := (pg_word u1 t1 ⟨h0, h1⟩ hx (n := n)).1 e2
        refine e ⟨h.inj i x.1 t (by rw [hi, e3.1]) ht, e3.2⟩
  · rw [setM, if_neg (fun e => by rw [e.1, ht] at hi; cases hi)]; exact h.mz i j hi
  · rw [setM]; split
    · exact .inr ⟨p, fr, he, hf, rfl⟩
    · exact h.me i j
/-! ### The table of a key -/
/-- What a map of tables tells. -/
def tv {α : Type} [DecidableEq α] (L : List (α × Value)) (x : α) : Option Value := (fA x L 0).map (·.2)
theorem fA_sh {α : Type} [DecidableEq α] {n : α} : ∀ {L : List (α × Value)} (i j : Nat), (fA n L i).map (·.2) = (fA n L j).map (·.2)
  | [], i, j => rfl
  | (a, v) :: r, i, j => by
    unfold fA
    split
    · rfl
    · exact fA_sh (i + 1) (j + 1)
theorem tv_append {α : Type} [DecidableEq α] {m n : α} {v : Value} : ∀ {L : List (α × Value)}, m ≠ n → tv (L ++ [(n, v)]) m = tv L m
  | [], h => by simp [tv, fA, Ne.symm h]
  | (a, u) :: r, h => by
    have ih := tv_append (L := r) (v := v) h
    unfold tv at ih ⊢
    rw [List.cons_append]
    unfold fA
    split
    · rfl
    · exact (fA_sh _ 0).trans (ih.trans (fA_sh 0 _))
theorem tv_set {α : Type} [DecidableEq α] {m n : α} {v : Value} : ∀ {L : List (α × Value)} {i : Nat} {u : Value}, m ≠ n → L[i]? = some (n, u) → tv (L.set i (n, v)) m = tv L m
  | [], i, u, h, hi => by simp at hi
  | (a, w) :: r, 0, u, h, hi => by
    simp only [List.getElem?_cons_zero, Option.some.injEq, Prod.mk.injEq] at hi
    obtain ⟨rfl, rfl⟩ := hi
    unfold tv
    rw [List.set_cons_zero]
    unfold fA
    rw [if_neg (Ne.symm h), if_neg (Ne.symm h)]
  | (a, w) :: r, i + 1, u, h, hi => by
    have ih := tv_set (L := r) (i := i) (v := v) h (by simpa using hi)
    unfold tv at ih ⊢
    rw [List.set_cons_succ]
    unfold fA
    split
    · rfl
    · exact (fA_sh _ 0).trans (ih.trans (fA_sh 0 _))
theorem tv_put {α : Type} [DecidableEq α] {m n : α} {v : Value} {L : List (α × Value)} : tv (putA n v L) m = if m = n then some v else tv L m := by
  by_cases h : m = n
  · subst h
    rw [if_pos rfl, tv]
    obtain ⟨j, hj⟩ := fA_putA (n := m) (v := v) (L := L)
    rw [hj]; rfl
  · rw [if_neg h]
    unfold putA
    cases hf : fA n L 0 with
    | none => exact tv_append h
    | some y =>
      obtain ⟨j, u⟩ := y
      exact tv_set h (fA_some hf).2
theorem tabOf_tv {L : List (Int × Value)} {x t : Int} (h : tv L x = some (.int .u32 t)) : tabOf L x = t := by
  unfold tv at h
  cases hf : fA x L 0 with
  | none => rw [hf] at h; cases h
  | some y =>
    obtain ⟨j, v⟩ := y
    rw [hf] at h
    simp only [Option.map_some, Option.some.injEq] at h
    subst h
    rw [tabOf, hf]
/-! ### The first pass -/
/-- One page that is free. -/
theorem mStep_free {n R : Int} {f : Int → Int} {tb : Int → Option Int} {M : Int → Int → Int} (hn : n ≤ 4096) (h : SpInv n f R tb M) {x : Int × Int} (h1 : 0 ≤ x.1 ∧ x.1 < 1024) (h2 : 0 ≤ x.2 ∧ x.2 < 1024) (hM : M x.1 x.2 = 0) {s : PS} (hs : x ∉ s.seen) :
    mStep n f R s x = some (match tb x.1 with
      | none => ⟨s.seen ++ [x], s.tabs, if x.1 ∈ s.wanted then s.wanted else s.wanted ++ [x.1]⟩
      | some t => ⟨s.seen ++ [x], putA x.1 (.int .u32 t) s.tabs, s.wanted⟩) := by
  have hw := h.rw' x.1 h1.1 h1.2
  rw [← h.pr.wW hn h1] at hw
  rw [mStep, if_neg hs]
  simp only
  cases ht : tb x.1 with
  | none =>
    rw [ht] at hw
    simp only at hw
    have d : decE 0 = 0 ∧ decK 0 = 0 := by decide
    rw [hw, if_neg (by rw [h.pr.ok hn h1, d.1, d.2]; simp), if_pos d.2]
  | some t =>
    rw [ht] at hw
    simp only at hw
    obtain ⟨hp, hR⟩ := h.pt _ _ ht
    obtain ⟨d1, d2, d3⟩ := dec_tab hn hp
    obtain ⟨p0, p1, p2⟩ := hp
    rw [hw, if_neg (by rw [h.pr.ok hn h1, d1, d2, d3]; simp; omega), if_neg (by rw [d2]; decide), d3, show t / 4096 * 4096 = t by omega]
    rw [(h.pt _ _ ht).1.wW hn h2, h.tw _ _ _ ht h2.1 h2.2, hM, if_neg (by simp)]
/-- What holds in the first pass, at any of its pages. -/
structure FstInv (tb : Int → Option Int) (l : List (Int × Int)) (s : PS) : Prop where
  seen : s.seen = l
  tabs : ∀ x ∈ l, ∀ t, tb x.1 = some t → tv s.tabs x.1 = some (.int .u32 t)
  want : ∀ i, i ∈ s.wanted ↔ tb i = none ∧ ∃ x ∈ l, x.1 = i
  nd : s.wanted.Nodup
theorem first_pass {n R : Int} {f : Int → Int} {tb : Int → Option Int} {M : Int → Int → Int} (hn : n ≤ 4096) (h : SpInv n f R tb M) : ∀ (l l0 : List (Int × Int)) (s : PS), FstInv tb l0 s → (l0 ++ l).Nodup → (∀ x ∈ l, 0 ≤ x.1 ∧ x.1 < 1024 ∧ 0 ≤ x.2 ∧ x.2 < 1024 ∧ M x.1 x.2 = 0) →
    ∃ s', l.foldlM (mStep n f R) s = some s' ∧ FstInv tb (l0 ++ l) s'
  | [], l0, s, hi, _, _ => ⟨s, rfl, by simpa using hi⟩
  | x :: r, l0, s, hi, hd, hx => by
    obtain ⟨x0, x1, x2, x3, x4⟩ := hx x (by simp)
    have hns : x ∉ s.seen := by
      rw [hi.seen]; intro hm
      rw [List.nodup_append] at hd
      exact hd.2.2 x hm x (by simp) rfl
    have hst := mStep_free hn h ⟨x0, x1⟩ ⟨x2, x3⟩ x4 hns
    rw [List.foldlM_cons, hst]
    have hd2 : ((l0 ++ [x]) ++ r).Nodup := by simpa using hd
    have key : ∀ s1, FstInv tb (l0 ++ [x]) s1 → ∃ s', r.foldlM (mStep n f R) s1 = some s' ∧ FstInv tb (l0 ++ x :: r) s' := fun s1 h1 => by
      have := first_pass hn h r (l0 ++ [x]) s1 h1 hd2 (fun y hy => hx y (List.mem_cons_of_mem _ hy))
      simpa using this
    cases ht : tb x.1 with
    | none =>
      refine key _ ⟨by simp [hi.seen], fun y hy t hy2 => ?_, fun i => ?_, ?_⟩
      · rcases List.mem_append.1 hy with hy | hy
        · exact hi.tabs y hy t hy2
        · simp only [List.mem_singleton] at hy; subst hy; rw [ht] at hy2; cases hy2
      · have hw := hi.want i
        simp only
        split
        · rename_i hm
          rw [hw]
          refine ⟨fun ⟨a, y, hy, hy2⟩ => ⟨a, y, List.mem_append_left _ hy, hy2⟩, fun ⟨a, y, hy, hy2⟩ => ⟨a, ?_⟩⟩
          rcases List.mem_append.1 hy with hy | hy
          · exact ⟨y, hy, hy2⟩
          · simp only [List.mem_singleton] at hy; subst hy; subst hy2; exact ((hi.want y.1).1 hm).2
        · rw [List.mem_append, hw]
          constructor
          · rintro (⟨a, y, hy, hy2⟩ | hy)
            · exact ⟨a, y, List.mem_append_left _ hy, hy2⟩
            · simp only [List.mem_singleton] at hy; subst hy; exact ⟨ht, x, by simp, rfl⟩
          · rintro ⟨a, y, hy, hy2⟩
            rcases List.mem_append.1 hy with hy | hy
            · exact .inl ⟨a, y, hy, hy2⟩
            · simp only [List.mem_singleton] at hy; subst hy; right; simp [hy2]
      · simp only
        split
        · exact hi.nd
        · rename_i hm
          rw [List.nodup_append]
          refine ⟨hi.nd, by simp, fun a ha b hb => ?_⟩
          simp only [List.mem_singleton] at hb
          subst hb; rintro rfl; exact hm ha
    | some t =>
      refine key _ ⟨by simp [hi.seen], fun y hy u hy2 => ?_, fun i => ?_, hi.nd⟩
      · simp only
        rw [tv_put]
        by_cases e : y.1 = x.1
        · rw [if_pos e]; rw [e, ht] at hy2; cases hy2; rfl
        · rw [if_neg e]
          rcases List.mem_append.1 hy with hy | hy
          · exact hi.tabs y hy u hy2
          · simp only [List.mem_singleton] at hy; subst hy; exact absurd rfl e
      · simp only
        rw [hi.want i]
        refine ⟨fun ⟨a, y, hy, hy2⟩ => ⟨a, y, List.mem_append_left _ hy, hy2⟩, fun ⟨a, y, hy, hy2⟩ => ⟨a, ?_⟩⟩
        rcases List.mem_append.1 hy with hy | hy
        · exact ⟨y, hy, hy2⟩
        · simp only [List.mem_singleton] at hy; subst hy; subst hy2; rw [ht] at a; cases a
theorem first_ok {n R : Int} {f : Int → Int} {tb : Int → Option Int} {M : Int → Int → Int} (hn : n ≤ 4096) (h : SpInv n f R tb M) (l : List (Int × Int)) (hd : l.Nodup) (hx : ∀ x ∈ l, 0 ≤ x.1 ∧ x.1 < 1024 ∧ 0 ≤ x.2 ∧ x.2 < 1024 ∧ M x.1 x.2 = 0) :
    ∃ s', l.foldlM (mStep n f R) ⟨[], [], []⟩ = some s' ∧ FstInv tb l s' :=
  first_pass hn h l [] ⟨[], [], []⟩ ⟨rfl, fun x hx => by simp at hx, fun i => by simp, by simp⟩ (by simpa using hd) hx
/-! ### The second -/
/-- Tables from the arena: all of the arena's pages from `taken` on are none of the space's. -/
structure TkInv (n base R : Int) (tb : Int → Option Int) (M : Int → Int → Int) (s : MS) (done : List Int) : Prop where
  sp : SpInv n s.f R tb M
  dn : ∀ i ∈ done, ∃ t, tb i = some t ∧ tv s.tabs i = some (.int .u32 t)
  fr : ∀ i t, tb i = some t → t < base + 4096 * s.taken
  rf : R < base + 4096 * s.taken
theorem second_pass {n base R : Int} {M : Int → Int → Int} (hn : n ≤ 4096) (hb : 0 ≤ base ∧ base % 4096 = 0) : ∀ (l : List Int) (tb : Int → Option Int) (s : MS) (done : List Int), TkInv n base R tb M s done → l.Nodup → (∀ i ∈ l, 0 ≤ i ∧ i < 1024 ∧ tb i = none) → 0 ≤ s.taken → base + 4096 * (s.taken + l.length) ≤ 4096 * n →
    ∃ tb', TkInv n base R tb' M (l.foldl (tkStep n base R) s) (done ++ l) ∧ (l.foldl (tkStep n base R) s).taken = s.taken + l.length ∧ (∀ i t, tb i = some t → tb' i = some t) ∧ (∀ i, tb' i = none ↔ tb i = none ∧ i ∉ l) ∧ (∀ i t, tb' i = some t → tb i = some t ∨ base + 4096 * s.taken ≤ t)
  | [], tb, s, done, h, _, _, _, _ => ⟨tb, by simpa using h, by simp, fun _ _ h => h, fun i => by simp, fun _ _ h => .inl h⟩
  | x :: r, tb, s, done, h, hd, hx, h0, hs => by
    obtain ⟨x0, x1, x2⟩ := hx x (by simp)
    rw [List.nodup_cons] at hd
    simp only [List.length_cons, Int.natCast_add, Int.natCast_one] at hs
    obtain ⟨t, ht⟩ : ∃ t, t = base + 4096 * s.taken := ⟨_, rfl⟩
    have hlt : ∀ i u, tb i = some u → u < t := fun i u hu => by rw [ht]; exact h.fr i u hu
    have hRt : R < t := by rw [ht]; exact h.rf
    have hsp := h.sp.table hn ⟨x0, x1⟩ x2 (t := t) ⟨by omega, by omega, by omega⟩ (by omega) (fun i u hu => by have := hlt i u hu; omega)
    have hs1 : tkStep n base R s x = ⟨layF n (zeroF s.f t) R x 2 0 (t / 4096), s.taken + 1, putA x (.int .u32 t) s.tabs⟩ := by rw [tkStep, ← ht]
    have hinv : TkInv n base R (setT tb x t) M (tkStep n base R s x) (done ++ [x]) := by
      rw [hs1]
      refine ⟨hsp, fun i hi => ?_, fun i u hu => ?_, by simp only; omega⟩
      · simp only
        rw [tv_put, setT]
        by_cases e : i = x
        · rw [if_pos e, if_pos e]; exact ⟨t, rfl, rfl⟩
        · rw [if_neg e, if_neg e]
          rcases List.mem_append.1 hi with hi | hi
          · exact h.dn i hi
          · simp only [List.mem_singleton] at hi; exact absurd hi e
      · simp only
        unfold setT at hu
        split at hu
        · cases hu; omega
        · have := hlt i u hu; omega
    have htk : (tkStep n base R s x).taken = s.taken + 1 := by rw [hs1]
    obtain ⟨tb', g1, g2, g3, g4, g5⟩ := second_pass hn hb r (setT tb x t) (tkStep n base R s x) (done ++ [x]) hinv hd.2 (fun i hi => by
      obtain ⟨a, b, c⟩ := hx i (List.mem_cons_of_mem _ hi)
      refine ⟨a, b, ?_⟩
      rw [setT, if_neg (fun e : i = x => hd.1 (e ▸ hi))]; exact c) (by omega) (by rw [htk]; omega)
    refine ⟨tb', by simpa using g1, ?_, fun i u hu => ?_, fun i => ?_, fun i u hu => ?_⟩
    · rw [List.foldl_cons, g2, htk, List.length_cons]; omega
    · refine g3 i u ?_
      rw [setT, if_neg (fun e => by rw [e, x2] at hu; cases hu)]; exact hu
    · rw [g4 i, setT]
      by_cases e : i = x
      · rw [if_pos e]; simp [e]
      · rw [if_neg e]; simp [e]
    · rcases g5 i u hu with hu | hu
      · unfold setT at hu
        split at hu
        · cases hu; right; omega
        · exact .inl hu
      · right; rw [htk] at hu; omega
/-! ### The third -/
def setA (M : Int → Int → Int) (l : List PgE) : Int → Int → Int := l.foldl (fun M x => setM M x.1 (encW 1 x.2.1 x.2.2)) M
theorem third_pass {n R : Int} {tb : Int → Option Int} (hn : n ≤ 4096) {tabs : List (Int × Value)} : ∀ (l : List PgE) (f : Int → Int) (M : Int → Int → Int), SpInv n f R tb M →
    (∀ x ∈ l, 0 ≤ x.1.2 ∧ x.1.2 < 1024 ∧ encE 1 x.2.1 x.2.2 = 0 ∧ 0 ≤ x.2.2 ∧ ∃ t, tb x.1.1 = some t ∧ tabOf tabs x.1.1 = t) → SpInv n (l.foldl (lyStep n tabs) f) R tb (setA M l)
  | [], f, M, h, _ => h
  | x :: r, f, M, h, hx => by
    obtain ⟨a, b, c, d, t, e1, e2⟩ := hx x (by simp)
    rw [List.foldl_cons, setA, List.foldl_cons]
    refine third_pass hn r _ _ ?_ fun y hy => hx y (List.mem_cons_of_mem _ hy)
    rw [lyStep, e2]
    exact h.page hn ⟨a, b⟩ e1 c d
theorem setA_out {i j : Int} : ∀ (l : List PgE) (M : Int → Int → Int), (∀ x ∈ l, x.1 ≠ (i, j)) → setA M l i j = M i j
  | [], M, _ => rfl
  | x :: r, M, h => by
    rw [setA, List.foldl_cons]
    show setA _ r i j = _
    rw [setA_out r _ fun y hy => h y (List.mem_cons_of_mem _ hy), setM, if_neg (fun e => h x (by simp) (by rw [e.1, e.2]))]
theorem setA_in {x : PgE} : ∀ (l : List PgE) (M : Int → Int → Int), (l.map (·.1)).Nodup → x ∈ l → setA M l x.1.1 x.1.2 = encW 1 x.2.1 x.2.2
  | [], M, _, h => by simp at h
  | y :: r, M, hd, h => by
    rw [List.map_cons, List.nodup_cons] at hd
    rw [setA, List.foldl_cons]
    show setA _ r _ _ = _
    rcases List.mem_cons.1 h with rfl | h
    · rw [setA_out r _ fun z hz e => hd.1 (List.mem_map.2 ⟨z, hz, e⟩), setM, if_pos ⟨rfl, rfl⟩]
    · exact setA_in r _ hd.2 h
/-! ### What is left as it was -/
theorem lay_at {n t x k p fr : Int} {f : Int → Int} (ht : Pg n t) (hn : n ≤ 4096) (hx : 0 ≤ x ∧ x < 1024) (hw : 0 ≤ encW k p fr ∧ encW k p fr < 4294967296) {a : Int} (ha : a % 4 = 0) : w32f (layF n f t x k p fr) a = if a = t + 4 * x then encW k p fr else w32f f a := by
  have h2 := ht
  obtain ⟨t0, t1, t2⟩ := h2
  rw [layF, wrap_u32, show (t + 4 * x) % 4294967296 = t + 4 * x by omega, w32_store ha (ht.err hx) hw]
theorem tk_frame {n base R : Int} (hn : n ≤ 4096) (hb : 0 ≤ base ∧ base % 4096 = 0) (hR : Pg n R) {a : Int} (ha : a % 4 = 0) (hoR : a < R ∨ R + 4096 ≤ a) : ∀ (l : List Int) (s : MS), (∀ i ∈ l, 0 ≤ i ∧ i < 1024) → 0 ≤ s.taken → base + 4096 * (s.taken + l.length) ≤ 4096 * n →
    (a < base + 4096 * s.taken ∨ base + 4096 * (s.taken + l.length) ≤ a) → w32f (l.foldl (tkStep n base R) s).f a = w32f s.f a
  | [], s, _, _, _, _ => rfl
  | x :: r, s, hx, h0, hs, ho => by
    have x1 := hx x (by simp)
    simp only [List.length_cons, Int.natCast_add, Int.natCast_one] at hs ho
    have htk : (tkStep n base R s x).taken = s.taken + 1 := rfl
    rw [List.foldl_cons, tk_frame hn hb hR ha hoR r _ (fun i hi => hx i (List.mem_cons_of_mem _ hi)) (by rw [htk]; omega) (by rw [htk]; omega) (by rw [htk]; omega)]
    have hpt : Pg n (base + 4096 * s.taken) := ⟨by omega, by omega, by omega⟩
    show w32f (layF n (zeroF s.f (base + 4096 * s.taken)) R x 2 0 ((base + 4096 * s.taken) / 4096)) a = _
    rw [lay_at hR hn x1 (by rw [encW2 hn hpt]; omega) ha, if_neg (by omega), w32_zero ha (by omega), if_neg (by omega)]
theorem ly_frame {n : Int} (hn : n ≤ 4096) {tabs : List (Int × Value)} {a : Int} (ha : a % 4 = 0) : ∀ (l : List PgE) (f : Int → Int), (∀ x ∈ l, Pg n (tabOf tabs x.1.1) ∧ 0 ≤ x.1.2 ∧ x.1.2 < 1024 ∧ encE 1 x.2.1 x.2.2 = 0 ∧ 0 ≤ x.2.2 ∧ (a < tabOf tabs x.1.1 ∨ tabOf tabs x.1.1 + 4096 ≤ a)) →
    w32f (l.foldl (lyStep n tabs) f) a = w32f f a
  | [], f, _ => rfl
  | x :: r, f, h => by
    obtain ⟨h1, h2, h3, h4, h5, h6⟩ := h x (by simp)
    have hp := permOk_bd (encE1.1 h4).1
    have hf := (encE1.1 h4).2
    rw [List.foldl_cons, ly_frame hn ha r _ fun y hy => h y (List.mem_cons_of_mem _ hy), lyStep, lay_at h1 hn ⟨h2, h3⟩ (by rw [encW1 h4]; omega) ha, if_neg (by omega)]
/-! ### Map -/
theorem allE_pgs (L : Rgs) (m : Nat) : (allE L m).map (·.1) = allPgs L m := by
  simp only [allE, allPgs, List.map_flatMap, rgE, pgsOf, List.map_map, Function.comp_def, pgE]
/-- Who may be mapped: where there is room. -/
theorem map_ok {n base pages taken R : Int} {sealed : Bool} {f : Int → Int} {L : Rgs} {m : Nat} {tb : Int → Option Int} {M : Int → Int → Int} (h : SpInv n f R tb M) (ha : ArOk n base pages taken)
    (hfr : ∀ i t, tb i = some t → t < base + 4096 * taken) (hR : R < base + 4096 * taken) (hgood : (List.range m).any (badR L) = false) (hd : (allPgs L m).Nodup) (hx : ∀ x ∈ allPgs L m, 0 ≤ x.1 ∧ x.1 < 1024 ∧ 0 ≤ x.2 ∧ x.2 < 1024 ∧ M x.1 x.2 = 0)
    (hE : ∀ x ∈ allE L m, encE 1 x.2.1 x.2.2 = 0 ∧ 0 ≤ x.2.2) (hroom : ∀ ws : List Int, ws.Nodup → (∀ i, i ∈ ws ↔ tb i = none ∧ ∃ x ∈ allPgs L m, x.1 = i) → (ws.length : Int) ≤ pages - taken ∧ (ws.length ≠ 0 → sealed = false)) :
    ∃ (f' : Int → Int) (tb' : Int → Option Int) (ws : List Int), mapP n base pages taken R sealed f L m = (0, f', taken + (ws.length : Int)) ∧ SpInv n f' R tb' (setA M (allE L m)) ∧ ws.Nodup ∧ (∀ i, i ∈ ws ↔ tb i = none ∧ ∃ x ∈ allPgs L m, x.1 = i) ∧
      (∀ i t, tb' i = some t → t < base + 4096 * (taken + ws.length)) ∧ (∀ i t, tb i = some t → tb' i = some t) ∧ (∀ i, tb' i = none ↔ tb i = none ∧ i ∉ ws) ∧ (∀ i t, tb' i = some t → tb i = some t ∨ base + 4096 * taken ≤ t) ∧
      (∀ a, a % 4 = 0 → (a < R ∨ R + 4096 ≤ a) → (∀ i t, tb' i = some t → a < t ∨ t + 4096 ≤ a) → (a < base + 4096 * taken ∨ base + 4096 * (taken + ws.length) ≤ a) → w32f f' a = w32f f a) := by
  have hn := ha.hn
  obtain ⟨ps, hps, hf⟩ := first_ok hn.2 h (allPgs L m) hd hx
  obtain ⟨hr1, hr2⟩ := hroom ps.wanted hf.nd hf.want
  have hbd : ∀ i ∈ ps.wanted, 0 ≤ i ∧ i < 1024 ∧ tb i = none := fun i hi => by
    obtain ⟨a, x, hx1, rfl⟩ := (hf.want i).1 hi
    exact ⟨(hx x hx1).1, (hx x hx1).2.1, a⟩
  have hs := ha.hs
  have hb0 := ha.hb0
  have hb := ha.hb
  obtain ⟨tb', g1, g2, g3, g4, g5⟩ := second_pass hn.2 ⟨ha.hb, ha.hb0⟩ ps.wanted tb ⟨f, taken, ps.tabs⟩ ((allPgs L m).map (·.1) |>.filter fun i => (tb i).isSome) (M := M) (R := R)
    ⟨h, fun i hi => by
      rw [List.mem_filter, List.mem_map] at hi
      obtain ⟨⟨x, hx1, rfl⟩, hi2⟩ := hi
      obtain ⟨t, ht⟩ := Option.isSome_iff_exists.1 hi2
      exact ⟨t, ht, hf.tabs x hx1 t ht⟩, hfr, hR⟩ hf.nd hbd ha.ht.1 (by simp only; omega)
  simp only at g2 g5
  have hxE : ∀ x ∈ allE L m, 0 ≤ x.1.2 ∧ x.1.2 < 1024 ∧ encE 1 x.2.1 x.2.2 = 0 ∧ 0 ≤ x.2.2 ∧ ∃ t, tb' x.1.1 = some t ∧ tabOf (ps.wanted.foldl (tkStep n base R) ⟨f, taken, ps.tabs⟩).tabs x.1.1 = t := fun x hx1 => by
    have hp : x.1 ∈ allPgs L m := by rw [← allE_pgs]; exact List.mem_map.2 ⟨x, hx1, rfl⟩
    obtain ⟨a, b, c, d, e⟩ := hx _ hp
    refine ⟨c, d, (hE x hx1).1, (hE x hx1).2, ?_⟩
    have hdone : x.1.1 ∈ ((allPgs L m).map (·.1) |>.filter fun i => (tb i).isSome) ++ ps.wanted := by
      rw [List.mem_append, List.mem_filter, hf.want]
      cases ht : tb x.1.1 with
      | none => exact .inr ⟨rfl, _, hp, rfl⟩
      | some t => exact .inl ⟨List.mem_map.2 ⟨_, hp, rfl⟩, by simp [ht]⟩
    obtain ⟨t, ht1, ht2⟩ := g1.dn _ hdone
    exact ⟨t, ht1, tabOf_tv ht2⟩
  refine ⟨(allE L m).foldl (lyStep n (ps.wanted.foldl (tkStep n base R) ⟨f, taken, ps.tabs⟩).tabs) (ps.wanted.foldl (tkStep n base R) ⟨f, taken, ps.tabs⟩).f, tb', ps.wanted, ?_, third_pass hn.2 (allE L m) _ _ g1.sp hxE, hf.nd, hf.want, fun i t ht => ?_, g3, g4, g5, fun a ha4 hoR hot hoT => ?_⟩
  · rw [mapP, hgood, if_neg (by decide), hps]
    simp only
    rw [if_neg (fun h => by have := hr2 h.1; rw [h.2] at this; cases this), if_neg (by omega), g2]
  · have := g1.fr i t ht; rw [g2] at this; exact this
  · rw [ly_frame hn.2 ha4 _ _ fun x hx1 => ?_]
    · exact tk_frame hn.2 ⟨hb, hb0⟩ h.pr ha4 hoR ps.wanted ⟨f, taken, ps.tabs⟩ (fun i hi => ⟨(hbd i hi).1, (hbd i hi).2.1⟩) ha.ht.1 (by simp only; omega) hoT
    · obtain ⟨c1, c2, c3, c4, t, c5, c6⟩ := hxE x hx1
      rw [c6]
      exact ⟨(g1.sp.pt _ _ c5).1, c1, c2, c3, c4, hot _ _ c5⟩
/-! ### Walk -/
theorem wAt_in {n t i : Int} (hn : n ≤ 4096) (h : Pg n t) (hi : 0 ≤ i ∧ i < 1024) : wAt t i = t + 4 * i := by
  obtain ⟨h0, h1, h2⟩ := h
  rw [wAt, if_neg (by omega)]
theorem walk_none {n R : Int} {f : Int → Int} {tb : Int → Option Int} {M : Int → Int → Int} (hn : n ≤ 4096) (h : SpInv n f R tb M) {v a : Int} (hv : 0 ≤ v ∧ v < 4294967296) (ht : tb (v / 4096 / 1024) = none) : ∃ s : Int × Int, walkP n f R v a = (0, [s], 3) := by
  have hi : 0 ≤ v / 4096 / 1024 ∧ v / 4096 / 1024 < 1024 := by omega
  have hw := h.rw' _ hi.1 hi.2
  rw [← h.pr.wW hn hi, ht] at hw
  simp only at hw
  have d : decE 0 = 0 ∧ decK 0 = 0 := by decide
  refine ⟨(wAt R (v / 4096 / 1024), 0), ?_⟩
  rw [walkP]
  simp only
  rw [if_neg (by rw [h.pr.ok hn hi]; decide), hw, if_neg (by simp [d.1]), if_pos d.2]
theorem walk_tab {n R : Int} {f : Int → Int} {tb : Int → Option Int} {M : Int → Int → Int} (hn : n ≤ 4096) (h : SpInv n f R tb M) {v a t : Int} (hv : 0 ≤ v ∧ v < 4294967296) (ht : tb (v / 4096 / 1024) = some t) :
    walkP n f R v a = (let w2 := M (v / 4096 / 1024) (v / 4096 % 1024)
      let l := [(R + 4 * (v / 4096 / 1024), t + 17), (t + 4 * (v / 4096 % 1024), w2)]
      if decE w2 ≠ 0 then (0, l, 4) else if decK w2 = 0 then (0, l, 3) else if decK w2 ≠ 1 then (0, l, 4) else
      if allowB (decP w2) a = false then (0, l, 5) else if n ≤ decF w2 then (0, l, 2) else (decF w2 * 4096 + v % 4096, l, 0)) := by
  have hi : 0 ≤ v / 4096 / 1024 ∧ v / 4096 / 1024 < 1024 := by omega
  have hj : 0 ≤ v / 4096 % 1024 ∧ v / 4096 % 1024 < 1024 := by omega
  have hw := h.rw' _ hi.1 hi.2
  rw [← h.pr.wW hn hi, ht] at hw
  simp only at hw
  obtain ⟨hp, hR⟩ := h.pt _ _ ht
  obtain ⟨d1, d2, d3⟩ := dec_tab hn hp
  have hp' := hp
  obtain ⟨p0, p1, p2⟩ := hp'
  rw [walkP]
  simp only
  rw [if_neg (by rw [h.pr.ok hn hi]; decide), hw, if_neg (by simp [d1]), if_neg (by rw [d2]; decide), if_neg (by rw [d2]; decide), d3, show t / 4096 * 4096 = t by omega, if_neg (by rw [hp.ok hn hj]; decide)]
  rw [hp.wW hn hj, h.tw _ _ _ ht hj.1 hj.2, wAt_in hn h.pr hi, wAt_in hn hp hj]
theorem walk_free {n R : Int} {f : Int → Int} {tb : Int → Option Int} {M : Int → Int → Int} (hn : n ≤ 4096) (h : SpInv n f R tb M) {v a : Int} (hv : 0 ≤ v ∧ v < 4294967296) (hM : M (v / 4096 / 1024) (v / 4096 % 1024) = 0) : ∃ l, walkP n f R v a = (0, l, 3) := by
  cases ht : tb (v / 4096 / 1024) with
  | none => obtain ⟨s, hs⟩ := walk_none hn h (a := a) hv ht; exact ⟨_, hs⟩
  | some t =>
    rw [walk_tab hn h hv ht, hM]
    have d : decE 0 = 0 ∧ decK 0 = 0 := by decide
    exact ⟨_, by simp only; rw [if_neg (by simp [d.1]), if_pos d.2]⟩
theorem walk_page {n R : Int} {f : Int → Int} {tb : Int → Option Int} {M : Int → Int → Int} (hn : n ≤ 4096) (h : SpInv n f R tb M) {v a p fr : Int} (hv : 0 ≤ v ∧ v < 4294967296) (he : encE 1 p fr = 0) (hf : 0 ≤ fr ∧ fr < n) (hM : M (v / 4096 / 1024) (v / 4096 % 1024) = encW 1 p fr) :
    ∃ s1 s2 : Int × Int, walkP n f R v a = (if allowB p a = true then fr * 4096 + v % 4096 else 0, [s1, s2], if allowB p a = true then 0 else 5) := by
  obtain ⟨d1, d2, d3, d4⟩ := dec_page he hf.1
  cases ht : tb (v / 4096 / 1024) with
  | none =>
    have := h.mz _ (v / 4096 % 1024) ht
    rw [hM, encW1 he] at this
    have := permOk_bd (encE1.1 he).1
    omega
  | some t =>
    refine ⟨(R + 4 * (v / 4096 / 1024), t + 17), (t + 4 * (v / 4096 % 1024), encW 1 p fr), ?_⟩
    rw [walk_tab hn h hv ht, hM]
    simp only
    rw [if_neg (by simp [d1]), if_neg (by rw [d2]; decide), if_neg (by rw [d2]; decide), d3, d4]
    cases allowB p a with
    | false => rw [if_pos rfl, if_neg (by decide), if_neg (by decide)]
    | true => rw [if_neg (by decide), if_neg (by omega), if_pos rfl, if_pos rfl]
end Go.Proofs.Ytnefllaeleihcaa
end

/-
  The example of the law's text: known.
-/
section
namespace Go.Proofs.Ytnefllaeleihcaa
open Go Go.Vex
set_option maxRecDepth 20000
set_option maxHeartbeats 4000000
theorem walk_uni (n : Int) (f : Int → Int) (root v a : Int) (hn : 1 ≤ n ∧ n ≤ 4096) (hm : MemOk f) (hr : 0 ≤ root ∧ root < 4294967296) (hv : 0 ≤ v ∧ v < 4294967296) {R : Bool → SV → List Blk → List Blk → Prop}
    (hR : ∀ addr steps fault cap, walkP n f root v a = (addr, steps, fault) → steps.length ≤ cap → R false (.tup [.i .u32 (.ex addr), .slc 2 0 2 (.lit 0) (.ex steps.length) (.ex cap), .i .i64 (.ex fault)]) [memB n f] [.cells 97 [.rows 2 (.ex steps.length) (stepF steps), .junk 2 (.ex (cap - steps.length))]]) :
    SpecM kit 19 [.p 0 (.at 0), .i .u32 (.ex root), .i .u32 (.ex v), .i .i64 (.ex a)] [memB n f] R := by
  refine ⟨fun F => OkCall.nilRes ?_⟩
  refine ((walk_gen n f root v a hn hm hr hv (R := fun q u hp1 new => (∃ hp1' new', hp1'.length = 1 ∧ hp1 = hp1' ∧ new = new' ∧ R q u hp1' new') ∨ ∃ addr fault, walkP n f root v a = (addr, [], fault) ∧ q = false ∧ u = .tup [.i .u32 (.ex addr), .nilslc, .i .i64 (.ex fault)] ∧ hp1 = [memB n f] ∧ new = [])
    (fun addr steps fault cap hw hc => ?_)).out F).cons ?_
  · cases steps with
    | nil => exact .inr ⟨addr, fault, hw, rfl, rfl, rfl, rfl⟩
    | cons s r => exact .inl ⟨_, _, rfl, rfl, rfl, hR addr (s :: r) fault cap hw hc⟩
  · rintro q u hp' ⟨hp1, new, hlen, rfl, ⟨hp1', new', hl, rfl, rfl, hR'⟩ | ⟨addr, fault, hw, rfl, rfl, rfl, rfl⟩⟩
    · exact .inl ⟨_, _, hlen, rfl, hR'⟩
    · refine .inr ⟨_, 1, 0, 2, .cells 97 [.rows 2 (.ex 0) (stepF []), .junk 2 (.ex 0)], rfl, rfl, nil_rows 97 2 _, .tup [.i .u32 (.ex addr), .slc 2 0 2 (.lit 0) (.ex 0) (.ex 0), .i .i64 (.ex fault)], ?_, _, _, rfl, rfl, hR addr [] fault 0 hw (Nat.le_refl _)⟩
      exact ⟨⟨rfl, rfl⟩, ⟨rfl, rfl, rfl, rfl, rfl, rfl⟩, ⟨rfl, rfl⟩, trivial⟩
/-- Where it is known what is found. -/
theorem walk_is (n : Int) (f : Int → Int) (root v a : Int) (hn : 1 ≤ n ∧ n ≤ 4096) (hm : MemOk f) (hr : 0 ≤ root ∧ root < 4294967296) (hv : 0 ≤ v ∧ v < 4294967296) {addr fault : Int} {A B : List Int} {m : Nat}
    (hw : ∃ steps, walkP n f root v a = (addr, steps, fault) ∧ A = steps.map (·.1) ∧ B = steps.map (·.2) ∧ m = steps.length) :
    SpecM kit 19 [.p 0 (.at 0), .i .u32 (.ex root), .i .u32 (.ex v), .i .i64 (.ex a)] [memB n f] fun q u hp1 new => q = false ∧ hp1 = [memB n f] ∧ ∃ cap j, m ≤ cap ∧ u = .tup [.i .u32 (.ex addr), .slc 2 0 2 (.lit 0) (.ex m) (.ex cap), .i .i64 (.ex fault)] ∧ new = [.cells 97 [.rows 2 (.ex m) (stepG A B), .junk 2 (.ex j)]] := by
  obtain ⟨steps, hw, rfl, rfl, rfl⟩ := hw
  refine walk_uni n f root v a hn hm hr hv fun addr' steps' fault' cap hw' hc => ?_
  rw [hw] at hw'
  simp only [Prod.mk.injEq] at hw'
  obtain ⟨rfl, rfl, rfl⟩ := hw'
  exact ⟨rfl, rfl, cap, _, hc, rfl, rfl⟩
/-! ### Are two lists of steps the same? -/
theorem stepG_le (A B : List Int) (τ : Nat → Nat) (j : Nat) : leL (stepG A B j) (renL τ (stepG A B j)) := ⟨⟨rfl, rfl⟩, ⟨rfl, rfl⟩, trivial⟩
noncomputable def I38 : FnT := [(38, fi Try.f38 ⟨[], 0⟩)]
theorem I38ok : FnsOk kit I38 := ⟨fo38 _, trivial⟩
def sameG (A B A' B' : List Int) (m : Nat) : Prop := ∀ j, j < m → A.getD j 0 = A'.getD j 0 ∧ B.getD j 0 = B'.getD j 0
theorem sameSteps_spec (A B A' B' : List Int) (m k c1 c2 : Nat) (hm : m < 4611686018427387904) {b : Bool} (hb : b = true ↔ m = k ∧ sameG A B A' B' m) :
    Spec1 kit 38 [.slc 0 0 2 (.lit 0) (.ex m) (.ex c1), .slc 1 0 2 (.lit 0) (.ex k) (.ex c2)] [.ro [.rows 2 (.ex m) (stepG A B)], .ro [.rows 2 (.ex k) (stepG A' B')]] false (.b (.ex b)) [.ro [.rows 2 (.ex m) (stepG A B)], .ro [.rows 2 (.ex k) (stepG A' B')]] [] := by
  refine Spec1.mk2 rfl fun F => ?_
  refine into I38ok 6 ?_
  conv => cbv
  refine Br.mk (fun hc => ?_) (fun hc => ?_)
  · have hc : ofN m ≠ ofN k := neI_t.1 hc
    rw [ofN_eq, ofN_eq] at hc
    have hbf : b = false := by
      cases b with
      | false => rfl
      | true => have := (hb.1 rfl).1; omega
    conv => cbv
    refine (LeOut.mk' [0, 1, 2] (by decide) (by rfl) (by decide) ?_ ?_).two
    · conv => cbv
      exact hbf
    · conv => cbv
      exact ⟨⟨fun j _ => stepG_le _ _ _ _, trivial⟩, ⟨fun j _ => stepG_le _ _ _ _, trivial⟩, trivial⟩
  · have hc : ofN m = ofN k := neI_f.1 hc
    rw [ofN_eq, ofN_eq] at hc
    have hmk : m = k := by omega
    conv => cbv
    refine byInv I38ok 6 ⟨[], 0⟩ (fun z : Int => ⟨[(5, .i .i64 (.ex z)), (0, .slc 0 0 2 (.lit 0) (.ex m) (.ex c1)), (1, .slc 1 0 2 (.lit 0) (.ex k) (.ex c2))], [.ro [.rows 2 (.ex m) (stepG A B)], .ro [.rows 2 (.ex k) (stepG A' B')], .abs F]⟩)
      (fun z => (m - z).toNat) (fun z => 0 ≤ z ∧ z ≤ m ∧ sameG A B A' B' z.toNat) false 0 (by kernel_rfl) ⟨by omega, by omega, fun j hj => by simp at hj⟩ (LeSt.mk' [0, 1, 2] (by decide) (by rfl) (by decide) (by cbv) ?_) ?_
    · conv => cbv
      exact ⟨⟨fun j _ => stepG_le _ _ _ _, trivial⟩, ⟨fun j _ => stepG_le _ _ _ _, trivial⟩, trivial⟩
    rintro z ⟨hz0, hz1, hz2⟩
    obtain ⟨z1, hz1'⟩ : ∃ x, z + 1 = x := ⟨_, rfl⟩
    conv => cbv
    refine Br.mk (fun hd => ?_) (fun hd => ?_)
    · have hd : z < (m : Int) := by have h : z < ofN m := ltI_t.1 hd; rw [ofN_eq] at h; exact h
      conv => cbv
      refine ⟨inR.mk hz0 hd, nLt.mk (by simp only [leafs]; omega), inR.mk hz0 (by omega), nLt.mk (by simp only [leafs]; omega), Br.mk (fun he => ?_) (fun he => ?_)⟩
      · have he : notB (andB (eqI (gi A (toN z)) (gi A' (toN z))) (eqI (gi B (toN z)) (gi B' (toN z)))) = true := he
        rw [notB_eq, andB_eq, Bool.not_eq_true', Bool.and_eq_false_iff, eqI_f, eqI_f, gi_eq, gi_eq, gi_eq, gi_eq, toN_eq] at he
        have hbf : b = false := by
          cases b with
          | false => rfl
          | true =>
            have := (hb.1 rfl).2 z.toNat (by omega)
            rcases he with he | he
            · exact absurd this.1 he
            · exact absurd this.2 he
        conv => cbv
        refine (LeOut.mk' [0, 1, 2] (by decide) (by rfl) (by decide) ?_ ?_).two
        · conv => cbv
          exact hbf
        · conv => cbv
          exact ⟨⟨fun j _ => stepG_le _ _ _ _, trivial⟩, ⟨fun j _ => stepG_le _ _ _ _, trivial⟩, trivial⟩
      · have he : notB (andB (eqI (gi A (toN z)) (gi A' (toN z))) (eqI (gi B (toN z)) (gi B' (toN z)))) = false := he
        rw [notB_eq, andB_eq, Bool.not_eq_false', Bool.and_eq_true, eqI_t, eqI_t, gi_eq, gi_eq, gi_eq, gi_eq, toN_eq] at he
        conv => cbv
        refine ⟨z1, ⟨⟨by omega, by show z1 ≤ (m : Int); omega, fun j hj => ?_⟩, by show ((m : Int) - z1).toNat < ((m : Int) - z).toNat; omega⟩, _, (HImp.refl _).ext, LeSt.mk' [0, 1, 2] (by decide) (by rfl) (by decide) ?_ ?_⟩
        · by_cases hjz : j < z.toNat
          · exact hz2 j hjz
          · have : j = z.toNat := by omega
            rw [this]; exact he
        · conv => cbv
          refine ⟨?_, trivial⟩
          show z1 = addI .i64 z 1
          rw [addI_eq, IntWalk.i64_in _ (by omega), hz1']
        · conv => cbv
          exact ⟨⟨fun j _ => stepG_le _ _ _ _, trivial⟩, ⟨fun j _ => stepG_le _ _ _ _, trivial⟩, trivial⟩
    · have hd : (m : Int) ≤ z := by have h : ofN m ≤ z := ltI_f.1 hd; rw [ofN_eq] at h; exact h
      have hbt : b = true := hb.2 ⟨hmk, by have : z.toNat = m := by omega
                                           rw [this] at hz2; exact hz2⟩
      conv => cbv
      refine (LeOut.mk' [0, 1, 2] (by decide) (by rfl) (by decide) ?_ ?_).two
      · conv => cbv
        exact hbt
      · conv => cbv
        exact ⟨⟨fun j _ => stepG_le _ _ _ _, trivial⟩, ⟨fun j _ => stepG_le _ _ _ _, trivial⟩, trivial⟩
/-! ### A memory and an arena -/
noncomputable def I15 : FnT := [(15, fi Try.f15 ⟨[], 0⟩)]
theorem I15ok : FnsOk kit I15 := ⟨fo15 _, trivial⟩
theorem fresh_spec (n base many : Int) (hn : 1 ≤ n ∧ n ≤ 4096) (hb : 0 ≤ base) (hm : 0 ≤ many) (hs : base + many ≤ n) {bs : Int} (hbs : bs = 4096 * base) :
    Spec1 kit 15 [.i .i64 (.ex n), .i .i64 (.ex base), .i .i64 (.ex many)] [] false (.tup [.p 1 (.at 0), .p 2 (.at 0)]) [] [memB n (fun _ => 0), arB 1 bs many 0 false] := by
  refine Spec1.mk2 rfl fun F => ?_
  refine into I15ok 6 ?_
  conv => cbv
  have hb2 : convI .u32 (mulI .i64 4096 base) = bs := by
    rw [mulI_eq, IntWalk.i64_in _ (by omega), convI_eq, wrap_u32, hbs]; omega
  refine OkCall.by_spec (new_spec n hn) [] (by decide) (by cbv) trivial ?_
  conv => cbv
  refine OkCall.by_spec (arenaNew_spec n bs many (fun _ => 0) hn (by omega) (by omega) hm (by omega)) [2] (by decide) ?_ (by cbv) ?_
  · conv => cbv
    exact ⟨hb2.symm, trivial⟩
  conv => cbv
  exact (LeOut.mk' [0, 2, 4] (by decide) (by rfl) (by decide) (by cbv) (by cbv)).two
/-! ### Bytes stay bytes -/
theorem spliceF_ok {f : Int → Int} (h : MemOk f) (at_ : Int) {src : List Int} (hs : ∀ z ∈ src, 0 ≤ z ∧ z < 256) : MemOk (spliceF f at_ src) := fun a => by
  unfold spliceF
  split
  · rename_i hc
    refine hs _ ?_
    rw [List.getD_eq_getElem?_getD, List.getElem?_eq_getElem (by omega)]; simp
  · exact h a
theorem b4_ok (v : Int) : ∀ z ∈ b4 v, 0 ≤ z ∧ z < 256 := fun z hz => by
  simp only [b4, List.mem_cons, List.not_mem_nil, or_false] at hz
  omega
theorem storeF_ok {f : Int → Int} (h : MemOk f) (n at_ v : Int) : MemOk (storeF f n at_ v) := by
  unfold storeF; split
  · exact spliceF_ok h _ (b4_ok v)
  · exact h
theorem zeroF_ok {f : Int → Int} (h : MemOk f) (at_ : Int) : MemOk (zeroF f at_) := fun a => by
  unfold zeroF; split
  · decide
  · exact h a
theorem layF_ok {f : Int → Int} (h : MemOk f) (n tb ix k p fr : Int) : MemOk (layF n f tb ix k p fr) := storeF_ok h _ _ _
theorem tkF_ok {n base root : Int} : ∀ (l : List Int) (s : MS), MemOk s.f → MemOk (l.foldl (tkStep n base root) s).f
  | [], s, h => h
  | x :: r, s, h => tkF_ok r _ (layF_ok (zeroF_ok h _) _ _ _ _ _ _)
theorem lyF_ok {n : Int} {tabs : List (Int × Value)} : ∀ (l : List PgE) (f : Int → Int), MemOk f → MemOk (l.foldl (lyStep n tabs) f)
  | [], f, h => h
  | x :: r, f, h => lyF_ok r _ (layF_ok h _ _ _ _ _ _)
theorem mapP_ok {n base pages taken root : Int} {sealed : Bool} {f : Int → Int} {L : Rgs} {m : Nat} (h : MemOk f) : MemOk (mapP n base pages taken root sealed f L m).2.1 := by
  unfold mapP
  split
  · exact h
  · split
    · exact h
    · split
      · exact h
      · split
        · exact h
        · exact lyF_ok _ _ (tkF_ok _ _ h)
/-! ### known -/
def kL : Rgs := ⟨[4194304], [20480], [1], [1]⟩
def kF1 : Int → Int := zeroF (fun _ => 0) 8192
def kF2 : Int → Int := (mapP 8 8192 2 1 8192 false kF1 kL 1).2.1
theorem triple {α β γ : Type} {p : α × β × γ} {a : α} {c : γ} (h1 : p.1 = a) (h2 : p.2.2 = c) : (a, p.2.1, c) = p := by subst h1 h2; rfl
theorem kF2_eq : (0, kF2, 2) = mapP 8 8192 2 1 8192 false kF1 kL 1 := by
  have h : (mapP 8 8192 2 1 8192 false kF1 kL 1).1 = 0 ∧ (mapP 8 8192 2 1 8192 false kF1 kL 1).2.2 = 2 := by decide +kernel
  exact triple h.1 h.2
theorem kF2_load : w32f kF2 8196 = 12305 := by decide +kernel
theorem kF2_walk : walkP 8 kF2 8192 4194308 1 = (20484, [(8196, 12305), (12288, 20483)], 0) := by decide +kernel
theorem kF1_ok : MemOk kF1 := zeroF_ok (fun _ => by decide) _
theorem kF2_ok : MemOk kF2 := mapP_ok kF1_ok
theorem kL_ok : RgsOk ⟨[4194304], [20480], [1], [1]⟩ 1 := by
  refine ⟨fun j => ?_, fun j => ?_, fun j => ?_, fun j => ?_, by decide⟩ <;> cases j <;> simp
noncomputable def I9 : FnT := [(9, fi Try.f9 ⟨[], 0⟩), (20, fi Try.f20 ⟨[], 0⟩)]
theorem I9ok : FnsOk kit I9 := ⟨fo9 _, fo20 _, trivial⟩
theorem known_spec : Spec1 kit 9 [] [] false (.b (.lit true)) [] [] := by
  refine Spec1.mk2 rfl fun F => ?_
  obtain ⟨f1, hf1⟩ : ∃ x, x = kF1 := ⟨_, rfl⟩
  obtain ⟨f2, hf2⟩ : ∃ x, x = kF2 := ⟨_, rfl⟩
  have h2 := kF2_eq
  have h3 := kF2_load
  have h4 := kF2_walk
  have h5 := kF1_ok
  have h6 := kF2_ok
  rw [← hf1, ← hf2] at h2
  rw [← hf2] at h3 h4 h6
  rw [← hf1] at h5
  refine into I9ok 6 ?_
  conv => cbv
  refine OkCall.by_spec (fresh_spec 8 2 2 (by decide) (by decide) (by decide) (by decide) (bs := 8192) (by decide)) [] (by decide) (by cbv) trivial ?_
  conv => cbv
  refine OkCall.by_spec (tnew_ok 8 8192 2 0 (fun _ => 0) ⟨by decide, by decide, by decide, by decide, by decide⟩ (by decide) (at_ := 8192) (tk := 1) (by decide) (by decide)) [2, 3] (by decide) (by cbv) (by cbv) ?_
  rw [show zeroF (fun _ => 0) 8192 = f1 from hf1.symm]
  conv => cbv
  refine OkCall.pre ((HImp.toRows 6 4 1 (rngF [4194304] [20480] [1] [1]) rfl rfl rfl ?_).trans (HImp.toRo 6 rfl)) ?_
  · intro j hj
    have : j = 0 := by omega
    subst this
    refine ⟨⟨rfl, ?_⟩, ⟨rfl, ?_⟩, ⟨rfl, ?_⟩, ⟨rfl, ?_⟩, trivial⟩ <;> (show gi _ 0 = _; rw [gi_eq]; rfl)
  conv => cbv
  refine OkCall.by_spec (map_spec 8 8192 2 1 8192 false f1 [4194304] [20480] [1] [1] 1 1 kL_ok (by decide) h5 (by decide) ⟨by decide, by decide, by decide, by decide, by decide⟩ h2) [2, 3, 5, 6] (by decide) (by cbv) ?_ ?_
  · conv => cbv
    exact ⟨⟨fun j _ => rngF_le _ _, trivial⟩, trivial⟩
  conv => cbv
  refine OkCall.by_spec (load4_spec 8 8196 f2 (by decide) (by decide) (e := 0) (v := 12305) (by decide) (by rw [if_pos rfl, h3])) [2] (by decide) (by cbv) (by cbv) ?_
  conv => cbv
  refine OkCall.by_specM (walk_is 8 f2 8192 4194308 1 (by decide) h6 (by decide) (by decide) (A := [8196, 12288]) (B := [12305, 20483]) (m := 2) ⟨_, h4, rfl, rfl, rfl⟩) [2] (by decide) (by cbv) (by cbv) ?_
  rintro q v hp1 new ⟨rfl, rfl, cap, jc, hcap, rfl, rfl⟩
  conv => cbv
  refine OkCall.pre (((HImp.toRows 11 2 2 (stepG [8196, 12288] [12305, 20483]) rfl rfl rfl ?_).trans (HImp.toRo 11 rfl)).trans (HImp.roInts 10 rfl)) ?_
  · intro j hj
    have : j = 0 ∨ j = 1 := by omega
    rcases this with rfl | rfl <;> (refine ⟨⟨rfl, ?_⟩, ⟨rfl, ?_⟩, trivial⟩ <;> (show gi _ _ = _; rw [gi_eq]; rfl))
  conv => cbv
  refine OkCall.by_spec (sameSteps_spec [8196, 12288] [12305, 20483] [8196, 12288] [12305, 20483] 2 2 cap 2 (by decide) (b := true) ⟨fun _ => ⟨rfl, fun j _ => ⟨rfl, rfl⟩⟩, fun _ => rfl⟩) [10, 11] (by decide) (by cbv) ?_ ?_
  · conv => cbv
    exact ⟨⟨fun j _ => stepG_le _ _ _ _, trivial⟩, ⟨fun j _ => stepG_le _ _ _ _, trivial⟩, trivial⟩
  conv => cbv
  refine Br.yes (show eqI 0 0 = true from eqI_t.2 rfl) ?_
  conv => cbv
  refine Br.yes (show eqI 12305 12305 = true from eqI_t.2 rfl) ?_
  conv => cbv
  refine Br.yes (show eqI 0 0 = true from eqI_t.2 rfl) ?_
  conv => cbv
  refine Br.yes (show eqI 20484 20484 = true from eqI_t.2 rfl) ?_
  conv => cbv
  refine Br.yes rfl ?_
  conv => cbv
  refine (LeOut.mk' [0] (by decide) (by rfl) (by decide) ?_ (by cbv)).two
  conv => cbv
  exact (eqI_t.2 rfl : eqI 0 0 = true).symm
end Go.Proofs.Ytnefllaeleihcaa
end

/-
  tables.all: the pages that are mapped.
-/
section
namespace Go.Proofs.Ytnefllaeleihcaa
open Go Go.Vex
set_option maxRecDepth 20000
set_option maxHeartbeats 4000000
theorem OkLoop.gen {C : Kit} {nt n0 : Nat} {c : Code} {q : Bool} {st : St} {Q : Bool → Ex → St → Prop} (h : ∀ Q', Q' = Q → OkLoop C nt n0 c q st Q') : OkLoop C nt n0 c q st Q := h Q rfl
/-- A page: where it is, and its word. -/
def isPg (n : Int) (f : Int → Int) (t k : Int) : Bool := wOk n t k && decide (decE (wW n f t k) = 0) && decide (decK (wW n f t k) = 1)
def pgIn (n : Int) (f : Int → Int) (t i k : Int) : Option (Int × Int) := if isPg n f t k = true then some ((i * 1024 + k) * 4096, wW n f t k) else none
def pgsTo (n : Int) (f : Int → Int) (t i : Int) (k : Nat) : List (Int × Int) := (List.range k).filterMap fun (j : Nat) => pgIn n f t i j
/-- A first index' table. -/
def isTb (n : Int) (f : Int → Int) (root i : Int) : Bool := wOk n root i && decide (decE (wW n f root i) = 0) && decide (decK (wW n f root i) = 2)
def tbPgs (n : Int) (f : Int → Int) (root i : Int) : List (Int × Int) := if isTb n f root i = true then pgsTo n f (decF (wW n f root i) * 4096) i 1024 else []
def allTo (n : Int) (f : Int → Int) (root : Int) (i : Nat) : List (Int × Int) := (List.range i).flatMap fun (j : Nat) => tbPgs n f root j
def allP (n : Int) (f : Int → Int) (root : Int) : List (Int × Int) := allTo n f root 1024
theorem pgsTo_succ (n : Int) (f : Int → Int) (t i : Int) (k : Nat) : pgsTo n f t i (k + 1) = pgsTo n f t i k ++ (pgIn n f t i k).toList := by
  rw [pgsTo, List.range_succ, List.filterMap_append]
  rfl
theorem allTo_succ (n : Int) (f : Int → Int) (root : Int) (i : Nat) : allTo n f root (i + 1) = allTo n f root i ++ tbPgs n f root i := by
  rw [allTo, List.range_succ, List.flatMap_append, List.flatMap_cons, List.flatMap_nil, List.append_nil]; rfl
theorem pgsTo_len (n : Int) (f : Int → Int) (t i : Int) (k : Nat) : (pgsTo n f t i k).length ≤ k := by
  have := List.length_filterMap_le (fun (j : Nat) => pgIn n f t i j) (List.range k)
  rw [List.length_range] at this; exact this
theorem allTo_len (n : Int) (f : Int → Int) (root : Int) : ∀ i : Nat, (allTo n f root i).length ≤ i * 1024
  | 0 => by simp [allTo]
  | i + 1 => by
    have h1 := allTo_len n f root i
    rw [allTo_succ, List.length_append]
    have h2 : (tbPgs n f root i).length ≤ 1024 := by
      unfold tbPgs; split
      · exact pgsTo_len _ _ _ _ _
      · simp
    omega
/-- The rows of such a list. -/
noncomputable def fndG (A P F : List Int) (j : Nat) : List SV := [.i .u32 (.ex (gi A j)), .i .i64 (.lit 1), .i .u8 (.ex (gi P j)), .i .u32 (.ex (gi F j))]
theorem fndG_le (A P F : List Int) (τ : Nat → Nat) (j : Nat) : leL (fndG A P F j) (renL τ (fndG A P F j)) := ⟨⟨rfl, rfl⟩, ⟨rfl, rfl⟩, ⟨rfl, rfl⟩, ⟨rfl, rfl⟩, trivial⟩
noncomputable def O90 : Opt := ⟨[1000002], 0⟩
noncomputable def I90 : FnT := [(90, fi Try.f90 O90)]
theorem I90ok : FnsOk kit I90 := ⟨fo90 _, trivial⟩
structure Cols (l : List (Int × Int)) (A P F : List Int) (k : Nat) : Prop where
  a : A = l.map (·.1)
  p : P = l.map fun x => decP x.2
  f : F = l.map fun x => decF x.2
  k : k = l.length
theorem Cols.le {n : Int} {f : Int → Int} {root : Int} {A P F : List Int} {k : Nat} (h : Cols (allP n f root) A P F k) : k ≤ 1048576 := by
  have := allTo_len n f root 1024
  rw [h.k]; exact this
theorem all_spec (n : Int) (f : Int → Int) (root : Int) (hn : 1 ≤ n ∧ n ≤ 4096) (hm : MemOk f) (hr : 0 ≤ root ∧ root < 4294967296) {A0 P0 F0 : List Int} {m : Nat} (hc0 : Cols (allP n f root) A0 P0 F0 m) :
    SpecM kit 90 [.p 0 (.at 0), .i .u32 (.ex root)] [memB n f] fun q v hp1 new => q = false ∧ hp1 = [memB n f] ∧ ∃ cap jc, m ≤ cap ∧ cap - m = jc ∧ v = .slc 2 0 4 (.lit 0) (.ex m) (.ex cap) ∧ new = [.cells 186 [.rows 4 (.ex m) (fndG A0 P0 F0), .junk 4 (.ex jc)]] := by
  refine SpecM.mk2 fun F => ?_
  refine into I90ok 6 ?_
  conv => cbv
  refine Ok.nilSlot 5 0 4 (.cells 186 [.rows 4 (.ex 0) (fndG [] [] []), .junk 4 (.ex 0)]) (by decide) rfl (nil_rows 186 4 _) ?_
  refine kcode I90ok 6 ⟨[], 0⟩ (by kernel_rfl) ?_
  conv => cbv
  refine OkLoop.gen fun Q1 hQ1 => ?_
  refine byInv I90ok 6 ⟨[], 0⟩ (fun a : Int × (List Int × List Int × List Int) × Nat × Nat × Nat => ⟨[(18, .i .u32 (.ex a.1)), (5, .slc 2 0 4 (.lit 0) (.ex a.2.2.1) (.ex a.2.2.2.1)), (0, .p 0 (.at 0)), (1, .i .u32 (.ex root))], [memB n f, .abs F, .cells 186 [.rows 4 (.ex a.2.2.1) (fndG a.2.1.1 a.2.1.2.1 a.2.1.2.2), .junk 4 (.ex a.2.2.2.2)]]⟩)
    (fun a => (1024 - a.1).toNat) (fun a => 0 ≤ a.1 ∧ a.1 ≤ 1024 ∧ Cols (allTo n f root a.1.toNat) a.2.1.1 a.2.1.2.1 a.2.1.2.2 a.2.2.1 ∧ a.2.2.1 ≤ a.2.2.2.1 ∧ a.2.2.2.1 - a.2.2.1 = a.2.2.2.2 ∧ a.2.2.1 ≤ a.1.toNat * 1024) false (0, ([], [], []), 0, 0, 0) (by kernel_rfl) ⟨by omega, by omega, ⟨rfl, rfl, rfl, rfl⟩, by decide, rfl, by decide⟩ (LeSt.mk' [0, 1, 2] (by decide) (by rfl) (by decide) (by cbv) ?_) ?_
  · conv => cbv
    exact ⟨⟨fun j _ => fndG_le _ _ _ _ _, trivial⟩, trivial⟩
  rintro ⟨z, ⟨A1, P1, F1⟩, k, cap, jc⟩ ⟨hz0, hz1, hco, hcap, hjc, hkz⟩
  simp only at hz0 hz1 hco hcap hjc hkz
  obtain ⟨z1, hz1'⟩ : ∃ x, z + 1 = x := ⟨_, rfl⟩
  obtain ⟨w, hw⟩ : ∃ x, x = wW n f root z := ⟨_, rfl⟩
  obtain ⟨b, hb⟩ : ∃ x, x = wOk n root z := ⟨_, rfl⟩
  obtain ⟨at1, hat1⟩ : ∃ x, x = wAt root z := ⟨_, rfl⟩
  obtain ⟨ek, hek⟩ : ∃ x, x = decK w := ⟨_, rfl⟩
  obtain ⟨ep, hep⟩ : ∃ x, x = decP w := ⟨_, rfl⟩
  obtain ⟨ef, hef⟩ : ∃ x, x = decF w := ⟨_, rfl⟩
  obtain ⟨ee, hee⟩ : ∃ x, x = decE w := ⟨_, rfl⟩
  have hwu : 0 ≤ w ∧ w < 4294967296 := by rw [hw]; exact wW_u hm _ _ _
  conv => cbv
  refine Br.mk (fun hc => ?_) (fun hc => ?_)
  · have hc : z < 1024 := ltI_t.1 hc
    conv => cbv
    refine OkCall.by_spec (word_spec n f root z hn hr (by omega) hat1 hw hb) [0] (by decide) (by cbv) (by cbv) ?_
    conv => cbv
    refine OkCall.by_spec (dec_spec w hwu hek hep hef hee) [] (by decide) (by cbv) (by cbv) ?_
    conv => cbv
    have hskip : isTb n f root z = false → Cols (allTo n f root z1.toNat) A1 P1 F1 k := fun h => by
      rw [show z1.toNat = z.toNat + 1 by omega, allTo_succ, show ((z.toNat : Nat) : Int) = z by omega, tbPgs, h, if_neg (by decide), List.append_nil]; exact hco
    refine Br.mk (fun h1 => ?_) (fun h1 => ?_)
    · have h1 : b = false := by have h : notB b = true := h1; rw [notB_eq] at h; simpa using h
      conv => cbv
      refine ⟨(z1, (A1, P1, F1), k, cap, jc), ⟨⟨by show 0 ≤ z1; omega, by show z1 ≤ 1024; omega, hskip (by rw [isTb, ← hb, h1]; rfl), hcap, hjc, by show k ≤ z1.toNat * 1024; omega⟩, by show (1024 - z1).toNat < (1024 - z).toNat; omega⟩, _, (HImp.refl _).ext, LeSt.mk' [0, 1, 2] (by decide) (by rfl) (by decide) ?_ ?_⟩
      · conv => cbv
        refine ⟨?_, trivial⟩
        show z1 = addI .u32 z 1
        rw [addI_eq, wrap_u32]; omega
      · conv => cbv
        exact ⟨⟨fun j _ => fndG_le _ _ _ _ _, trivial⟩, trivial⟩
    · have h1 : b = true := by have h : notB b = false := h1; rw [notB_eq] at h; simpa using h
      conv => cbv
      refine Br.mk (fun h2 => ?_) (fun h2 => ?_)
      · have h2 : ee ≠ 0 := neI_t.1 h2
        conv => cbv
        refine ⟨(z1, (A1, P1, F1), k, cap, jc), ⟨⟨by show 0 ≤ z1; omega, by show z1 ≤ 1024; omega, hskip (by rw [isTb, ← hb, ← hw, ← hee, decide_eq_false h2]; simp), hcap, hjc, by show k ≤ z1.toNat * 1024; omega⟩, by show (1024 - z1).toNat < (1024 - z).toNat; omega⟩, _, (HImp.refl _).ext, LeSt.mk' [0, 1, 2] (by decide) (by rfl) (by decide) ?_ ?_⟩
        · conv => cbv
          refine ⟨?_, trivial⟩
          show z1 = addI .u32 z 1
          rw [addI_eq, wrap_u32]; omega
        · conv => cbv
          exact ⟨⟨fun j _ => fndG_le _ _ _ _ _, trivial⟩, trivial⟩
      · have h2 : ee = 0 := neI_f.1 h2
        conv => cbv
        refine Br.mk (fun h3 => ?_) (fun h3 => ?_)
        · have h3 : ek ≠ 2 := neI_t.1 h3
          conv => cbv
          refine ⟨(z1, (A1, P1, F1), k, cap, jc), ⟨⟨by show 0 ≤ z1; omega, by show z1 ≤ 1024; omega, hskip (by rw [isTb, ← hb, ← hw, ← hek, decide_eq_false h3]; simp), hcap, hjc, by show k ≤ z1.toNat * 1024; omega⟩, by show (1024 - z1).toNat < (1024 - z).toNat; omega⟩, _, (HImp.refl _).ext, LeSt.mk' [0, 1, 2] (by decide) (by rfl) (by decide) ?_ ?_⟩
          · conv => cbv
            refine ⟨?_, trivial⟩
            show z1 = addI .u32 z 1
            rw [addI_eq, wrap_u32]; omega
          · conv => cbv
            exact ⟨⟨fun j _ => fndG_le _ _ _ _ _, trivial⟩, trivial⟩
        · have h3 : ek = 2 := neI_f.1 h3
          conv => cbv
          have hefb := decF_u hwu (by rw [← hee]; exact h2)
          rw [← hef] at hefb
          obtain ⟨t, ht⟩ : ∃ x, x = ef * 4096 := ⟨_, rfl⟩
          have htb : isTb n f root z = true := by rw [isTb, ← hb, ← hw, ← hee, ← hek, h1, h2, h3]; rfl
          have hco1 : Cols (allTo n f root z.toNat ++ pgsTo n f t z 0) A1 P1 F1 k := by simpa [pgsTo] using hco
          refine OkLoop.gen fun Q2 hQ2 => ?_
          refine byInv I90ok 6 ⟨[], 0⟩ (fun a : Int × (List Int × List Int × List Int) × Nat × Nat × Nat => ⟨[(45, .i .u32 (.ex a.1)), (10, .p 3 (.at 0)), (6, .i .u32 (.ex z)), (18, .i .u32 (.ex z)), (5, .slc 2 0 4 (.lit 0) (.ex a.2.2.1) (.ex a.2.2.2.1)), (0, .p 0 (.at 0)), (1, .i .u32 (.ex root))], [memB n f, .abs F, .cells 186 [.rows 4 (.ex a.2.2.1) (fndG a.2.1.1 a.2.1.2.1 a.2.1.2.2), .junk 4 (.ex a.2.2.2.2)], .cells 85 [.i .i64 (.ex ek), .i .u8 (.ex ep), .i .u32 (.ex ef)]]⟩)
            (fun a => (1024 - a.1).toNat) (fun a => 0 ≤ a.1 ∧ a.1 ≤ 1024 ∧ Cols (allTo n f root z.toNat ++ pgsTo n f t z a.1.toNat) a.2.1.1 a.2.1.2.1 a.2.1.2.2 a.2.2.1 ∧ a.2.2.1 ≤ a.2.2.2.1 ∧ a.2.2.2.1 - a.2.2.1 = a.2.2.2.2 ∧ a.2.2.1 ≤ z.toNat * 1024 + a.1.toNat) false (0, (A1, P1, F1), k, cap, jc) (by kernel_rfl) ⟨by omega, by omega, hco1, hcap, hjc, by show k ≤ _; omega⟩ (LeSt.mk' [0, 1, 2, 5] (by decide) (by rfl) (by decide) (by cbv) ?_) ?_
          · conv => cbv
            exact ⟨⟨fun j _ => fndG_le _ _ _ _ _, trivial⟩, trivial⟩
          rintro ⟨y, ⟨A2, P2, F2⟩, k2, cap2, jc2⟩ ⟨hy0, hy1, hco2, hcap2, hjc2, hky⟩
          simp only at hy0 hy1 hco2 hcap2 hjc2 hky
          obtain ⟨y1, hy1'⟩ : ∃ x, y + 1 = x := ⟨_, rfl⟩
          obtain ⟨w2, hw2⟩ : ∃ x, x = wW n f t y := ⟨_, rfl⟩
          obtain ⟨b2, hb2⟩ : ∃ x, x = wOk n t y := ⟨_, rfl⟩
          obtain ⟨at2, hat2⟩ : ∃ x, x = wAt t y := ⟨_, rfl⟩
          obtain ⟨gk, hgk⟩ : ∃ x, x = decK w2 := ⟨_, rfl⟩
          obtain ⟨gp, hgp⟩ : ∃ x, x = decP w2 := ⟨_, rfl⟩
          obtain ⟨gf, hgf⟩ : ∃ x, x = decF w2 := ⟨_, rfl⟩
          obtain ⟨ge, hge⟩ : ∃ x, x = decE w2 := ⟨_, rfl⟩
          have hw2u : 0 ≤ w2 ∧ w2 < 4294967296 := by rw [hw2]; exact wW_u hm _ _ _
          have hts : t = shlI .u32 ef 12 := by rw [shlI_eq, wrap_u32, ht]; show _ = ef * 4096 % 4294967296; omega
          have hskip2 : isPg n f t y = false → Cols (allTo n f root z.toNat ++ pgsTo n f t z y1.toNat) A2 P2 F2 k2 := fun h => by
            rw [show y1.toNat = y.toNat + 1 by omega, pgsTo_succ, show ((y.toNat : Nat) : Int) = y by omega, pgIn, h, if_neg (by decide)]; simpa using hco2
          conv => cbv
          refine Br.mk (fun hd => ?_) (fun hd => ?_)
          · have hd : y < 1024 := ltI_t.1 hd
            conv => cbv
            refine OkCall.by_spec (word_spec n f t y hn (by omega) (by omega) hat2 hw2 hb2) [0] (by decide) ?_ (by cbv) ?_
            · conv => cbv
              exact ⟨hts, trivial⟩
            conv => cbv
            refine OkCall.by_spec (dec_spec w2 hw2u hgk hgp hgf hge) [] (by decide) (by cbv) (by cbv) ?_
            conv => cbv
            refine Br.mk (fun h4 => ?_) (fun h4 => ?_)
            · have h4 : b2 = true := h4
              conv => cbv
              refine Br.mk (fun h5 => ?_) (fun h5 => ?_)
              · have h5 : ge = 0 := eqI_t.1 h5
                conv => cbv
                refine Br.mk (fun h6 => ?_) (fun h6 => ?_)
                · have h6 : gk = 1 := eqI_t.1 h6
                  conv => cbv
                  have hpg : isPg n f t y = true := by rw [isPg, ← hb2, ← hw2, ← hge, ← hgk, h4, h5, h6]; rfl
                  obtain ⟨v, hv⟩ : ∃ x, x = (z * 1024 + y) * 4096 := ⟨_, rfl⟩
                  obtain ⟨k3, hk3⟩ : ∃ x, x = k2 + 1 := ⟨_, rfl⟩
                  obtain ⟨A3, hA3⟩ : ∃ x, x = A2 ++ [v] := ⟨_, rfl⟩
                  obtain ⟨P3, hP3⟩ : ∃ x, x = P2 ++ [gp] := ⟨_, rfl⟩
                  obtain ⟨F3, hF3⟩ : ∃ x, x = F2 ++ [gf] := ⟨_, rfl⟩
                  have hA2l : A2.length = k2 := by rw [hco2.a, hco2.k, List.length_map]
                  have hP2l : P2.length = k2 := by rw [hco2.p, hco2.k, List.length_map]
                  have hF2l : F2.length = k2 := by rw [hco2.f, hco2.k, List.length_map]
                  have hvs : v = shlI .u32 (addI .u32 (mulI .u32 z 1024) y) 12 := by
                    rw [mulI_eq, addI_eq, shlI_eq, wrap_u32, wrap_u32, wrap_u32, hv]; show _ = (z * 1024 % 4294967296 + y) % 4294967296 * 4096 % 4294967296; omega
                  have hco3 : Cols (allTo n f root z.toNat ++ pgsTo n f t z y1.toNat) A3 P3 F3 k3 := by
                    have e : pgsTo n f t z y1.toNat = pgsTo n f t z y.toNat ++ [(v, w2)] := by
                      rw [show y1.toNat = y.toNat + 1 by omega, pgsTo_succ, show ((y.toNat : Nat) : Int) = y by omega, pgIn, hpg, if_pos rfl, ← hv, ← hw2]; rfl
                    rw [e, ← List.append_assoc]
                    refine ⟨?_, ?_, ?_, ?_⟩
                    · simp [hA3, hco2.a]
                    · simp [hP3, hco2.p, hgp]
                    · simp [hF3, hco2.f, hgf]
                    · simp [hk3, hco2.k]; omega
                  have hlo : ∀ (l : List Int) (x : Int) j, j < l.length → gi (l ++ [x]) j = gi l j := fun l x j h => by rw [gi_eq, gi_eq, List.getD_eq_getElem?_getD, List.getElem?_append_left h, List.getD_eq_getElem?_getD]
                  have hhi : ∀ (l : List Int) (x : Int) j, j = l.length → gi (l ++ [x]) j = x := fun l x j h => by rw [gi_eq, List.getD_eq_getElem?_getD, h, List.getElem?_concat_length]; rfl
                  refine ⟨by show eqN k2 k2; rw [eqN_eq], by show eqN (addN k2 jc2) cap2; rw [eqN_eq, addN_eq]; omega, by show apOk (addN k2 1) 24; rw [apOk_eq, addN_eq]; omega, AllN.mk fun cap3 hcap3 => ?_⟩
                  have hcap3 : k3 ≤ cap3 := by have h : addN k2 1 ≤ cap3 := hcap3; rw [addN_eq] at h; omega
                  obtain ⟨jc3, hjc3⟩ : ∃ x, cap3 - k3 = x := ⟨_, rfl⟩
                  conv => cbv
                  refine ⟨(y1, (A3, P3, F3), k3, cap3, jc3), ⟨⟨by show 0 ≤ y1; omega, by show y1 ≤ 1024; omega, hco3, hcap3, hjc3, by show k3 ≤ z.toNat * 1024 + y1.toNat; omega⟩, by show (1024 - y1).toNat < (1024 - y).toNat; omega⟩, _, (HImp.refl _).ext, LeSt.mk' [0, 1, 8, 3] (by decide) (by rfl) (by decide) ?_ ?_⟩
                  · conv => cbv
                    refine ⟨?_, ⟨?_, trivial⟩, trivial⟩
                    · show y1 = addI .u32 y 1
                      rw [addI_eq, wrap_u32]; omega
                    · show k3 = addN k2 1
                      rw [addN_eq, hk3]
                  · conv => cbv
                    refine ⟨⟨⟨?_, fun j hj => ?_⟩, ?_, trivial⟩, trivial⟩
                    · show k3 = addN k2 1
                      rw [addN_eq, hk3]
                    · have hj : j < addN k2 1 := hj
                      rw [addN_eq] at hj
                      show leL (jn (fndG A2 P2 F2) (fun _ => [.i .u32 (.ex (shlI .u32 (addI .u32 (mulI .u32 z 1024) y) 12)), .i .i64 (.ex gk), .i .u8 (.ex gp), .i .u32 (.ex gf)]) k2 j) (fndG A3 P3 F3 j)
                      rw [jn_eq]
                      show leL (if j < k2 then fndG A2 P2 F2 j else _) _
                      by_cases hjn : j < k2
                      · rw [if_pos hjn]
                        refine ⟨⟨rfl, ?_⟩, ⟨rfl, rfl⟩, ⟨rfl, ?_⟩, ⟨rfl, ?_⟩, trivial⟩
                        · show gi A3 j = gi A2 j
                          rw [hA3, hlo _ _ _ (by omega)]
                        · show gi P3 j = gi P2 j
                          rw [hP3, hlo _ _ _ (by omega)]
                        · show gi F3 j = gi F2 j
                          rw [hF3, hlo _ _ _ (by omega)]
                      · rw [if_neg hjn]
                        refine ⟨⟨rfl, ?_⟩, ⟨rfl, ?_⟩, ⟨rfl, ?_⟩, ⟨rfl, ?_⟩, trivial⟩
                        · show gi A3 j = shlI .u32 (addI .u32 (mulI .u32 z 1024) y) 12
                          rw [hA3, hhi _ _ _ (by omega), hvs]
                        · show (1 : Int) = gk
                          exact h6.symm
                        · show gi P3 j = gp
                          rw [hP3, hhi _ _ _ (by omega)]
                        · show gi F3 j = gf
                          rw [hF3, hhi _ _ _ (by omega)]
                    · show jc3 = subN cap3 (addN k2 1)
                      rw [subN_eq, addN_eq, ← hjc3, hk3]
                · have h6 : gk ≠ 1 := eqI_f.1 h6
                  conv => cbv
                  refine ⟨(y1, (A2, P2, F2), k2, cap2, jc2), ⟨⟨by show 0 ≤ y1; omega, by show y1 ≤ 1024; omega, hskip2 (by rw [isPg, ← hb2, ← hw2, ← hgk, decide_eq_false h6]; simp), hcap2, hjc2, by show k2 ≤ z.toNat * 1024 + y1.toNat; omega⟩, by show (1024 - y1).toNat < (1024 - y).toNat; omega⟩, _, (HImp.refl _).ext, LeSt.mk' [0, 1, 2, 3] (by decide) (by rfl) (by decide) ?_ ?_⟩
                  · conv => cbv
                    refine ⟨?_, trivial⟩
                    show y1 = addI .u32 y 1
                    rw [addI_eq, wrap_u32]; omega
                  · conv => cbv
                    exact ⟨⟨fun j _ => fndG_le _ _ _ _ _, trivial⟩, trivial⟩
              · have h5 : ge ≠ 0 := eqI_f.1 h5
                conv => cbv
                refine ⟨(y1, (A2, P2, F2), k2, cap2, jc2), ⟨⟨by show 0 ≤ y1; omega, by show y1 ≤ 1024; omega, hskip2 (by rw [isPg, ← hb2, ← hw2, ← hge, decide_eq_false h5]; simp), hcap2, hjc2, by show k2 ≤ z.toNat * 1024 + y1.toNat; omega⟩, by show (1024 - y1).toNat < (1024 - y).toNat; omega⟩, _, (HImp.refl _).ext, LeSt.mk' [0, 1, 2, 3] (by decide) (by rfl) (by decide) ?_ ?_⟩
                · conv => cbv
                  refine ⟨?_, trivial⟩
                  show y1 = addI .u32 y 1
                  rw [addI_eq, wrap_u32]; omega
                · conv => cbv
                  exact ⟨⟨fun j _ => fndG_le _ _ _ _ _, trivial⟩, trivial⟩
            · have h4 : b2 = false := h4
              conv => cbv
              refine ⟨(y1, (A2, P2, F2), k2, cap2, jc2), ⟨⟨by show 0 ≤ y1; omega, by show y1 ≤ 1024; omega, hskip2 (by rw [isPg, ← hb2, h4]; rfl), hcap2, hjc2, by show k2 ≤ z.toNat * 1024 + y1.toNat; omega⟩, by show (1024 - y1).toNat < (1024 - y).toNat; omega⟩, _, (HImp.refl _).ext, LeSt.mk' [0, 1, 2, 3] (by decide) (by rfl) (by decide) ?_ ?_⟩
              · conv => cbv
                refine ⟨?_, trivial⟩
                show y1 = addI .u32 y 1
                rw [addI_eq, wrap_u32]; omega
              · conv => cbv
                exact ⟨⟨fun j _ => fndG_le _ _ _ _ _, trivial⟩, trivial⟩
          · have hd : 1024 ≤ y := ltI_f.1 hd
            conv => cbv
            subst hQ2
            conv => cbv
            have hy : y.toNat = 1024 := by omega
            refine ⟨(z1, (A2, P2, F2), k2, cap2, jc2), ⟨⟨by show 0 ≤ z1; omega, by show z1 ≤ 1024; omega, by show Cols (allTo n f root z1.toNat) A2 P2 F2 k2; rw [show z1.toNat = z.toNat + 1 by omega, allTo_succ, show ((z.toNat : Nat) : Int) = z by omega, tbPgs, htb, if_pos rfl, ← hw, ← hef, ← ht, ← hy]; exact hco2, hcap2, hjc2, by show k2 ≤ z1.toNat * 1024; omega⟩, by show (1024 - z1).toNat < (1024 - z).toNat; omega⟩, _, (HImp.refl _).ext, LeSt.mk' [0, 1, 2] (by decide) (by rfl) (by decide) ?_ ?_⟩
            · conv => cbv
              refine ⟨?_, trivial⟩
              show z1 = addI .u32 z 1
              rw [addI_eq, wrap_u32]; omega
            · conv => cbv
              exact ⟨⟨fun j _ => fndG_le _ _ _ _ _, trivial⟩, trivial⟩
  · have hc : 1024 ≤ z := ltI_f.1 hc
    conv => cbv
    subst hQ1
    conv => cbv
    have hz : z.toNat = 1024 := by omega
    rw [hz] at hco
    obtain ⟨a1, a2, a3, a4⟩ := hco
    obtain ⟨c1, c2, c3, c4⟩ := hc0
    have hkm : k = m := by rw [a4, c4]; rfl
    have hA : A1 = A0 := by rw [a1, c1]; rfl
    have hP : P1 = P0 := by rw [a2, c2]; rfl
    have hF : F1 = F0 := by rw [a3, c3]; rfl
    subst hkm hA hP hF
    refine ⟨_, _, _, _, ⟨rfl, rfl, cap, jc, hcap, hjc, rfl, rfl⟩, rfl, (LeOut.mk' [0, 1, 2] (by decide) (by rfl) (by decide) (by cbv) ?_).two⟩
    conv => cbv
    exact ⟨⟨fun j _ => fndG_le _ _ _ _ _, trivial⟩, trivial⟩
end Go.Proofs.Ytnefllaeleihcaa
end

/-
  Plain: what All tells of a space.
-/
section
namespace Go.Proofs.Ytnefllaeleihcaa
open Go Go.Vex
set_option maxHeartbeats 4000000
theorem dec_zero : decE 0 = 0 ∧ decK 0 = 0 ∧ decP 0 = 0 ∧ decF 0 = 0 := by decide
theorem isTb_iff {n R : Int} {f : Int → Int} {tb : Int → Option Int} {M : Int → Int → Int} (hn : n ≤ 4096) (h : SpInv n f R tb M) {i : Int} (hi : 0 ≤ i ∧ i < 1024) : isTb n f R i = (tb i).isSome := by
  have hw := h.rw' i hi.1 hi.2
  rw [← h.pr.wW hn hi] at hw
  rw [isTb, h.pr.ok hn hi, hw]
  cases ht : tb i with
  | none => decide
  | some t =>
    obtain ⟨d1, d2, d3⟩ := dec_tab hn (h.pt i t ht).1
    simp [d1, d2]
theorem isPg_iff {n R : Int} {f : Int → Int} {tb : Int → Option Int} {M : Int → Int → Int} (hn : n ≤ 4096) (h : SpInv n f R tb M) {i j t : Int} (ht : tb i = some t) (hj : 0 ≤ j ∧ j < 1024) : isPg n f t j = decide (M i j ≠ 0) := by
  have hp := (h.pt i t ht).1
  rw [isPg, hp.ok hn hj, hp.wW hn hj, h.tw i t j ht hj.1 hj.2]
  rcases h.me i j with h0 | ⟨p, fr, he, hf, h0⟩
  · rw [h0]; decide
  · obtain ⟨d1, d2, _⟩ := dec_page he hf
    rw [h0, d1, d2]
    have := permOk_bd (encE1.1 he).1
    have hne : encW 1 p fr ≠ 0 := by rw [encW1 he]; omega
    simp [hne]
theorem mem_allP {n R : Int} {f : Int → Int} {tb : Int → Option Int} {M : Int → Int → Int} (hn : n ≤ 4096) (h : SpInv n f R tb M) {x : Int × Int} :
    x ∈ allP n f R ↔ ∃ i j : Nat, i < 1024 ∧ j < 1024 ∧ M i j ≠ 0 ∧ x = ((((i : Int) * 1024 + (j : Int)) * 4096, M i j) : Int × Int) := by
  rw [allP, allTo]
  simp only [List.mem_flatMap, List.mem_range]
  constructor
  · rintro ⟨i, hi, hx⟩
    have hib := isTb_iff hn h (i := i) ⟨by omega, by omega⟩
    rw [tbPgs, hib] at hx
    cases ht : tb i with
    | none => rw [ht] at hx; simp at hx
    | some t =>
      rw [ht] at hx hib
      rw [if_pos (show (some t).isSome = true from rfl)] at hx
      obtain ⟨hp, _⟩ := h.pt _ _ ht
      obtain ⟨d1, d2, d3⟩ := dec_tab hn hp
      obtain ⟨p0, p1, p2⟩ := hp
      have hw := h.rw' i (by omega) (by omega)
      rw [← h.pr.wW hn ⟨by omega, by omega⟩, ht] at hw
      simp only at hw
      rw [hw, d3, show t / 4096 * 4096 = t by omega] at hx
      simp only [pgsTo, List.mem_filterMap, List.mem_range, pgIn] at hx
      obtain ⟨j, hj, hx⟩ := hx
      rw [isPg_iff hn h ht ⟨by omega, by omega⟩, (h.pt _ _ ht).1.wW hn ⟨by omega, by omega⟩, h.tw _ _ j ht (by omega) (by omega)] at hx
      split at hx
      · rename_i hm
        cases hx
        exact ⟨i, j, hi, hj, of_decide_eq_true hm, rfl⟩
      · cases hx
  · rintro ⟨i, j, hi, hj, hm, rfl⟩
    refine ⟨i, hi, ?_⟩
    cases ht : tb i with
    | none => exact absurd (h.mz _ _ ht) hm
    | some t =>
      have hib := isTb_iff hn h (i := i) ⟨by omega, by omega⟩
      obtain ⟨hp, _⟩ := h.pt _ _ ht
      obtain ⟨d1, d2, d3⟩ := dec_tab hn hp
      obtain ⟨p0, p1, p2⟩ := hp
      have hw := h.rw' i (by omega) (by omega)
      rw [← h.pr.wW hn ⟨by omega, by omega⟩, ht] at hw
      simp only at hw
      rw [tbPgs, hib, ht, if_pos (show (some t).isSome = true from rfl), hw, d3, show t / 4096 * 4096 = t by omega]
      simp only [pgsTo, List.mem_filterMap, List.mem_range, pgIn]
      refine ⟨j, hj, ?_⟩
      rw [isPg_iff hn h ht ⟨by omega, by omega⟩, (h.pt _ _ ht).1.wW hn ⟨by omega, by omega⟩, h.tw _ _ j ht (by omega) (by omega), if_pos (decide_eq_true hm)]
def ByAt (a b : Int × Int) : Prop := a.1 < b.1
theorem allP_sorted (n : Int) (f : Int → Int) (R : Int) : (allP n f R).Pairwise ByAt := by
  have hin : ∀ (t i : Int) (x : Int × Int), x ∈ pgsTo n f t i 1024 → ∃ j : Nat, j < 1024 ∧ x.1 = (i * 1024 + j) * 4096 := fun t i x hx => by
    simp only [pgsTo, List.mem_filterMap, List.mem_range, pgIn] at hx
    obtain ⟨j, hj, hx⟩ := hx
    split at hx
    · cases hx; exact ⟨j, hj, rfl⟩
    · cases hx
  have hin2 : ∀ (i : Int) (x : Int × Int), x ∈ tbPgs n f R i → ∃ j : Nat, j < 1024 ∧ x.1 = (i * 1024 + j) * 4096 := fun i x hx => by
    unfold tbPgs at hx
    split at hx
    · exact hin _ _ _ hx
    · simp at hx
  unfold allP allTo
  rw [List.pairwise_flatMap]
  refine ⟨fun i hi => ?_, ?_⟩
  · unfold tbPgs
    split
    · unfold pgsTo
      rw [List.pairwise_filterMap]
      refine List.Pairwise.imp ?_ List.pairwise_lt_range
      intro a b hab x hx y hy
      simp only [pgIn] at hx hy
      split at hx
      · split at hy
        · cases hx; cases hy; simp only [ByAt]; omega
        · cases hy
      · cases hx
    · exact List.Pairwise.nil
  · refine List.Pairwise.imp ?_ List.pairwise_lt_range
    intro a b hab x hx y hy
    obtain ⟨j, hj, e1⟩ := hin2 _ _ hx
    obtain ⟨k, hk, e2⟩ := hin2 _ _ hy
    simp only [ByAt, e1, e2]; omega
theorem byAt_ext : ∀ (l k : List (Int × Int)), l.Pairwise ByAt → k.Pairwise ByAt → (∀ x, x ∈ l ↔ x ∈ k) → l = k
  | [], [], _, _, _ => rfl
  | [], y :: k, _, _, h => by have := (h y).2 (by simp); simp at this
  | x :: l, [], _, _, h => by have := (h x).1 (by simp); simp at this
  | x :: l, y :: k, hl, hk, h => by
    rw [List.pairwise_cons] at hl hk
    have hxy : x = y := by
      rcases List.mem_cons.1 ((h x).1 (by simp)) with e | e
      · exact e
      · rcases List.mem_cons.1 ((h y).2 (by simp)) with e2 | e2
        · exact e2.symm
        · have h1 := hk.1 x e
          have h2 := hl.1 y e2
          simp only [ByAt] at h1 h2; omega
    subst hxy
    rw [byAt_ext l k hl.2 hk.2 fun z => ?_]
    have hz := h z
    rw [List.mem_cons, List.mem_cons] at hz
    constructor
    · intro hm
      rcases hz.1 (.inr hm) with e | e
      · subst e; have := hl.1 z hm; simp only [ByAt] at this; omega
      · exact e
    · intro hm
      rcases hz.2 (.inr hm) with e | e
      · subst e; have := hk.1 z hm; simp only [ByAt] at this; omega
      · exact e
/-- All of a space, by what is mapped in it. -/
theorem allP_is {n R : Int} {f : Int → Int} {tb : Int → Option Int} {M : Int → Int → Int} (hn : n ≤ 4096) (h : SpInv n f R tb M) {l : List (Int × Int)} (hs : l.Pairwise ByAt)
    (hm : ∀ x, x ∈ l ↔ ∃ i j : Nat, i < 1024 ∧ j < 1024 ∧ M i j ≠ 0 ∧ x = ((((i : Int) * 1024 + (j : Int)) * 4096, M i j) : Int × Int)) : allP n f R = l :=
  byAt_ext _ _ (allP_sorted _ _ _) hs fun x => by rw [mem_allP hn h, hm]
/-! ### All of what was mapped -/
def wOf (e : PgE) : Int × Int := ((e.1.1 * 1024 + e.1.2) * 4096, encW 1 e.2.1 e.2.2)
def ByPg (x y : PgE) : Prop := x.1.1 * 1024 + x.1.2 < y.1.1 * 1024 + y.1.2
theorem setA_append (M : Int → Int → Int) (l k : List PgE) : setA M (l ++ k) = setA (setA M l) k := by
  unfold setA; rw [List.foldl_append]
theorem byPg_nodup {l : List PgE} (h : l.Pairwise ByPg) : (l.map (·.1)).Nodup := by
  unfold List.Nodup
  rw [List.pairwise_map]
  refine h.imp ?_
  intro a b hab e
  simp only [ByPg, e] at hab; omega
theorem allP_setA {n R : Int} {f : Int → Int} {tb : Int → Option Int} {E : List PgE} (hn : n ≤ 4096) (h : SpInv n f R tb (setA (fun _ _ => 0) E)) (hs : E.Pairwise ByPg) (hE : ∀ x ∈ E, (0 ≤ x.1.1 ∧ x.1.1 < 1024) ∧ (0 ≤ x.1.2 ∧ x.1.2 < 1024) ∧ encE 1 x.2.1 x.2.2 = 0 ∧ 0 ≤ x.2.2) :
    allP n f R = E.map wOf := by
  have hnd := byPg_nodup hs
  refine allP_is hn h ?_ fun x => ?_
  · rw [List.pairwise_map]
    refine hs.imp ?_
    intro a b hab
    simp only [ByPg] at hab
    simp only [ByAt, wOf]; omega
  · rw [List.mem_map]
    constructor
    · rintro ⟨e, he, rfl⟩
      obtain ⟨h1, h2, h3, h4⟩ := hE e he
      have hM := setA_in (x := e) E (fun _ _ => 0) hnd he
      have hp := permOk_bd (encE1.1 h3).1
      refine ⟨e.1.1.toNat, e.1.2.toNat, by omega, by omega, ?_⟩
      rw [show ((e.1.1.toNat : Nat) : Int) = e.1.1 by omega, show ((e.1.2.toNat : Nat) : Int) = e.1.2 by omega, hM]
      exact ⟨by rw [encW1 h3]; omega, rfl⟩
    · rintro ⟨i, j, hi, hj, hm, rfl⟩
      by_cases hx : ∃ e ∈ E, e.1 = ((i : Int), (j : Int))
      · obtain ⟨e, he, hij⟩ := hx
        have hM := setA_in (x := e) E (fun _ _ => 0) hnd he
        rw [hij] at hM
        refine ⟨e, he, ?_⟩
        rw [wOf, hij, hM]
      · refine absurd (setA_out (i := i) (j := j) E (fun _ _ => 0) fun e he hij => hx ⟨e, he, hij⟩) hm
/-- Where a page lies: its entry, as All tells it. -/
theorem wOf_dec {e : PgE} (h : encE 1 e.2.1 e.2.2 = 0) (hf : 0 ≤ e.2.2) : decP (wOf e).2 = e.2.1 ∧ decF (wOf e).2 = e.2.2 := by
  obtain ⟨_, _, h3, h4⟩ := dec_page h hf
  exact ⟨h3, h4⟩
/-- Ranges in order have pages in order. -/
theorem allE_sorted {L : Rgs} {m : Nat} (hv : ∀ i, i < m → 0 ≤ L.V.getD i 0) (h : ∀ i j, i < j → j < m → L.V.getD i 0 / 4096 + L.G.getD i 0 ≤ L.V.getD j 0 / 4096) : (allE L m).Pairwise ByPg := by
  unfold allE
  rw [List.pairwise_flatMap]
  refine ⟨fun i hi => ?_, ?_⟩
  · rw [rgE, List.pairwise_map]
    refine List.Pairwise.imp ?_ List.pairwise_lt_range
    intro a b hab
    simp only [ByPg, pgE, pgOf]; omega
  · refine List.Pairwise.imp_of_mem ?_ List.pairwise_lt_range
    intro a b ha hb hab x hx y hy
    have hb := List.mem_range.1 hb
    simp only [rgE, List.mem_map, List.mem_range] at hx hy
    obtain ⟨j, hj, rfl⟩ := hx
    obtain ⟨k, hk, rfl⟩ := hy
    have := h a b hab hb
    simp only [ByPg, pgE, pgOf]; omega
end Go.Proofs.Ytnefllaeleihcaa
end

/-
  Plain: pages told as ranges.
-/
section
namespace Go.Proofs.Ytnefllaeleihcaa
open Go Go.Vex
set_option maxHeartbeats 4000000
/-- A range: virtual, physical, pages, permissions. -/
structure R4 where
  v : Int
  ph : Int
  g : Int
  p : Int
def folB (q r : R4) : Bool := decide (q.p = r.p) && decide (q.v + 4096 * q.g = r.v) && decide (q.ph + 4096 * q.g = r.ph)
def rOf (x : Int × Int) : R4 := ⟨x.1, decF x.2 * 4096, 1, decP x.2⟩
def longer (q : R4) : R4 := ⟨q.v, q.ph, q.g + 1, q.p⟩
def mgStep (out : List R4) (x : Int × Int) : List R4 :=
  match out.getLast? with
  | none => out ++ [rOf x]
  | some q => if folB q (rOf x) = true then out.dropLast ++ [longer q] else out ++ [rOf x]
def mergeP (l : List (Int × Int)) : List R4 := l.foldl mgStep []
theorem mergeP_snoc (l : List (Int × Int)) (x : Int × Int) : mergeP (l ++ [x]) = mgStep (mergeP l) x := by
  unfold mergeP; rw [List.foldl_append]; rfl
theorem mgStep_len (out : List R4) (x : Int × Int) : (mgStep out x).length ≤ out.length + 1 := by
  unfold mgStep
  split
  · simp
  · rename_i q hq
    split
    · simp
    · simp
theorem mergeP_len (l : List (Int × Int)) : (mergeP l).length ≤ l.length := by
  have h : ∀ (l : List (Int × Int)) (out : List R4), (l.foldl mgStep out).length ≤ out.length + l.length := by
    intro l
    induction l with
    | nil => intro out; simp
    | cons x r ih => intro out; have := ih (mgStep out x); have := mgStep_len out x; simp only [List.foldl_cons, List.length_cons]; omega
  simpa [mergeP] using h l []
theorem mgStep_g {out : List R4} {x : Int × Int} {b : Int} (h : ∀ r ∈ out, 1 ≤ r.g ∧ r.g ≤ b) (hb : 0 ≤ b) : ∀ r ∈ mgStep out x, 1 ≤ r.g ∧ r.g ≤ b + 1 := by
  intro r hr
  have hnew : ∀ r, r ∈ out ++ [rOf x] → 1 ≤ r.g ∧ r.g ≤ b + 1 := fun r hr => by
    rcases List.mem_append.1 hr with hr | hr
    · have := h r hr; omega
    · rw [List.mem_singleton] at hr; subst hr; simp only [rOf]; omega
  unfold mgStep at hr
  split at hr
  · exact hnew r hr
  · rename_i q hq
    split at hr
    · rcases List.mem_append.1 hr with hr | hr
      · have := h r (List.dropLast_subset _ hr); omega
      · rw [List.mem_singleton] at hr; subst hr
        have := h q (List.mem_of_getLast? hq); simp only [longer]; omega
    · exact hnew r hr
/-- Columns of ranges. -/
structure RCols (l : List R4) (V PH G P : List Int) (k : Nat) : Prop where
  v : V = l.map (·.v)
  ph : PH = l.map (·.ph)
  g : G = l.map (·.g)
  p : P = l.map (·.p)
  k : k = l.length
theorem RCols.nil : RCols [] [] [] [] [] 0 := ⟨rfl, rfl, rfl, rfl, rfl⟩
theorem RCols.snoc {l : List R4} {V PH G P : List Int} {k : Nat} (h : RCols l V PH G P k) (r : R4) : RCols (l ++ [r]) (V ++ [r.v]) (PH ++ [r.ph]) (G ++ [r.g]) (P ++ [r.p]) (k + 1) := by
  obtain ⟨rfl, rfl, rfl, rfl, rfl⟩ := h
  exact ⟨by simp, by simp, by simp, by simp, by simp⟩
theorem RCols.last {l : List R4} {V PH G P : List Int} {k : Nat} (h : RCols l V PH G P k) {q : R4} (hq : l.getLast? = some q) : 0 < k ∧ V.getD (k - 1) 0 = q.v ∧ PH.getD (k - 1) 0 = q.ph ∧ G.getD (k - 1) 0 = q.g ∧ P.getD (k - 1) 0 = q.p := by
  obtain ⟨rfl, rfl, rfl, rfl, rfl⟩ := h
  rw [List.getLast?_eq_getElem?] at hq
  have hlt := (List.getElem?_eq_some_iff.1 hq).1
  refine ⟨by omega, ?_, ?_, ?_, ?_⟩ <;> simp [List.getD_eq_getElem?_getD, List.getElem?_map, hq]
theorem RCols.long {l : List R4} {V PH G P : List Int} {k : Nat} (h : RCols l V PH G P k) {q : R4} (hq : l.getLast? = some q) : RCols (l.dropLast ++ [longer q]) V PH (G.set (k - 1) (q.g + 1)) P k := by
  obtain ⟨rfl, rfl, rfl, rfl, rfl⟩ := h
  have hne : l ≠ [] := by rintro rfl; simp at hq
  rw [List.getLast?_eq_some_getLast hne, Option.some.injEq] at hq
  have hl : l = l.dropLast ++ [q] := by rw [← hq, List.dropLast_concat_getLast hne]
  obtain ⟨d, hd⟩ : ∃ d, d = l.dropLast := ⟨_, rfl⟩
  rw [← hd] at hl ⊢
  subst hl
  refine ⟨by simp [longer], by simp [longer], ?_, by simp [longer], by simp⟩
  rw [List.map_append, List.map_append]
  simp only [List.map_cons, List.map_nil, List.length_append, List.length_singleton, Nat.add_sub_cancel, longer]
  rw [List.set_append_right _ _ (by simp)]
  simp
theorem mergeP_mem (l : List (Int × Int)) : ∀ r ∈ mergeP l, (∃ x ∈ l, r.v = x.1 ∧ r.ph = decF x.2 * 4096 ∧ r.p = decP x.2) ∧ 1 ≤ r.g ∧ r.g ≤ l.length := by
  have h : ∀ (k l0 : List (Int × Int)) (out : List R4), (∀ r ∈ out, (∃ x ∈ l0, r.v = x.1 ∧ r.ph = decF x.2 * 4096 ∧ r.p = decP x.2) ∧ 1 ≤ r.g ∧ r.g ≤ l0.length) →
      ∀ r ∈ k.foldl mgStep out, (∃ x ∈ l0 ++ k, r.v = x.1 ∧ r.ph = decF x.2 * 4096 ∧ r.p = decP x.2) ∧ 1 ≤ r.g ∧ r.g ≤ (l0 ++ k).length := by
    intro k
    induction k with
    | nil => intro l0 out h; simpa using h
    | cons x k ih =>
      intro l0 out h
      have := ih (l0 ++ [x]) (mgStep out x) fun r hr => by
        have hold : ∀ r ∈ out, (∃ y ∈ l0 ++ [x], r.v = y.1 ∧ r.ph = decF y.2 * 4096 ∧ r.p = decP y.2) ∧ 1 ≤ r.g ∧ r.g ≤ ((l0 ++ [x]).length : Int) := fun r hr => by
          obtain ⟨⟨y, hy, e⟩, g1, g2⟩ := h r hr
          exact ⟨⟨y, List.mem_append_left _ hy, e⟩, g1, by simp only [List.length_append, List.length_singleton]; omega⟩
        have hnew : ∀ r, r ∈ out ++ [rOf x] → (∃ y ∈ l0 ++ [x], r.v = y.1 ∧ r.ph = decF y.2 * 4096 ∧ r.p = decP y.2) ∧ 1 ≤ r.g ∧ r.g ≤ ((l0 ++ [x]).length : Int) := fun r hr => by
          rcases List.mem_append.1 hr with hr | hr
          · exact hold r hr
          · rw [List.mem_singleton] at hr
            subst hr
            exact ⟨⟨x, by simp, rfl, rfl, rfl⟩, by simp [rOf], by simp only [List.length_append, List.length_singleton, rOf]; omega⟩
        unfold mgStep at hr
        split at hr
        · exact hnew r hr
        · rename_i q hq
          split at hr
          · rcases List.mem_append.1 hr with hr | hr
            · exact hold r (List.dropLast_subset _ hr)
            · rw [List.mem_singleton] at hr
              subst hr
              obtain ⟨⟨y, hy, e⟩, g1, g2⟩ := h q (List.mem_of_getLast? hq)
              exact ⟨⟨y, List.mem_append_left _ hy, e⟩, by simp only [longer]; omega, by simp only [List.length_append, List.length_singleton, longer]; omega⟩
          · exact hnew r hr
      simpa using this
  simpa [mergeP] using h l [] [] (by simp)
theorem allP_bd {n root : Int} {f : Int → Int} (hm : MemOk f) : ∀ x ∈ allP n f root, (0 ≤ x.1 ∧ x.1 < 4294967296) ∧ (0 ≤ decF x.2 ∧ decF x.2 ≤ 4095) ∧ (0 ≤ decP x.2 ∧ decP x.2 < 256) := by
  intro x hx
  simp only [allP, allTo, List.mem_flatMap, List.mem_range] at hx
  obtain ⟨i, hi, hx⟩ := hx
  unfold tbPgs at hx
  split at hx
  · simp only [pgsTo, List.mem_filterMap, List.mem_range, pgIn] at hx
    obtain ⟨j, hj, hx⟩ := hx
    split at hx
    · rename_i h
      cases hx
      simp only [isPg, Bool.and_eq_true, decide_eq_true_eq] at h
      exact ⟨⟨by simp only; omega, by simp only; omega⟩, decF_u (wW_u hm _ _ _) h.1.2, decP_u (wW_u hm _ _ _)⟩
    · cases hx
  · simp at hx
end Go.Proofs.Ytnefllaeleihcaa
end

/-
  slices.Collect of maps.Keys.
-/
section
namespace Go.Proofs.Ytnefllaeleihcaa
open Go Go.Vex
set_option maxRecDepth 20000
set_option maxHeartbeats 4000000
theorem unfoldW {C : Kit} {nt n0 : Nat} {c : Code} {q : Bool} {fr : Fr} {hp : List Blk} {Q : Bool → Ex → St → Prop} (x : Nat) (l : List Int) (n : Nat) (hn : l.length = n) (hx : hp[x]? = some (wanB l))
    (h : ∀ cap jc, n ≤ cap → cap - n = jc → Ok C nt n0 c q ⟨fr, (hp.set x (.cells 89 [.slc hp.length 0 1 (.lit 0) (.ex n) (.ex cap)])) ++ [.cells 27 [.ints .u32 (.ex n) l, .junk 1 (.ex jc)]]⟩ Q) : Ok C nt n0 c q ⟨fr, hp⟩ Q := by
  have hlt := (List.getElem?_eq_some_iff.1 hx).1
  refine Ok.unfold x hx ?_
  rintro bs (⟨rfl, rfl⟩ | ⟨hw, cap, hcap, rfl⟩)
  · simp only [List.length_nil] at hn
    subst hn
    rw [show unf hp x [Blk.cells 89 [.nilslc]] = hp.set x (.cells 89 [.nilslc]) by simp [unf, renB, renL, ren]]
    refine Ok.ext (HExt.nilFill (hp := hp.set x (.cells 89 [.nilslc])) x 0 0 1 (.cells 27 [.ints .u32 (.ex 0) [], .junk 1 (.ex 0)]) (List.getElem?_set_self hlt) rfl (nil_ints 27 .u32)) ?_
    rw [List.length_set, List.set_set]
    refine Ok.imp (HImp.at x (k := .cells 89 [.slc hp.length 0 1 (.lit 0) (.lit 0) (.lit 0)]) (k' := .cells 89 [.slc hp.length 0 1 (.lit 0) (.ex 0) (.ex 0)]) ?_ (BImp.le ⟨rfl, ⟨rfl, rfl, rfl, rfl, rfl, rfl⟩, trivial⟩)) ?_
    · rw [List.getElem?_append_left (by simpa using hlt)]; exact List.getElem?_set_self hlt
    · rw [List.set_append_left _ _ (by simpa using hlt), List.set_set]
      exact h 0 0 (Nat.le_refl _) rfl
  · rw [hn] at hcap
    rw [hn]
    exact h cap (cap - n) hcap rfl
def kI : Value → Int
  | .int _ z => z
  | _ => 0
theorem perm_of {α : Type} [DecidableEq α] : ∀ {l1 l2 : List α}, l1.Nodup → l2.Nodup → (∀ x, x ∈ l1 ↔ x ∈ l2) → l1.Perm l2
  | [], l2, _, _, h => by
    cases l2 with
    | nil => exact .nil
    | cons a r => exact absurd ((h a).2 (by simp)) (by simp)
  | a :: r, l2, h1, h2, h => by
    have ha : a ∈ l2 := (h a).1 (by simp)
    have h1' := List.nodup_cons.1 h1
    refine ((perm_of h1'.2 (h2.erase a) fun x => ?_).cons a).trans (List.perm_cons_erase ha).symm
    rw [h2.mem_erase_iff, ← h x, List.mem_cons]
    constructor
    · intro hx
      exact ⟨fun e => h1'.1 (e ▸ hx), .inr hx⟩
    · rintro ⟨hne, rfl | hx⟩
      · exact absurd rfl hne
      · exact hx
theorem nodup_len {α : Type} [DecidableEq α] : ∀ {l1 l2 : List α}, l1.Nodup → (∀ x ∈ l1, x ∈ l2) → l1.length ≤ l2.length
  | [], l2, _, _ => by simp
  | a :: r, l2, h1, h => by
    have ha : a ∈ l2 := h a (by simp)
    have h1' := List.nodup_cons.1 h1
    have := nodup_len (l2 := l2.erase a) h1'.2 fun x hx => (List.mem_erase_of_ne (by rintro rfl; exact h1'.1 hx)).2 (h x (by simp [hx]))
    rw [List.length_erase_of_mem ha] at this
    have := List.length_pos_of_mem ha
    simp only [List.length_cons]
    omega
/-- Entries that have been gone over, some of a map's. -/
structure Done (es : Array MapEntry) (seen : Array Nat) (ks : List Int) : Prop where
  ex : ∃ done : List MapEntry, seen.toList = done.map (·.born) ∧ (∀ e ∈ done, e ∈ es.toList) ∧ (done.map (·.born)).Nodup ∧ ks = done.map fun e => kI e.key
theorem Done.zero (es : Array MapEntry) : Done es #[] [] := ⟨[], rfl, by simp, by simp, rfl⟩
theorem Done.push {es : Array MapEntry} {seen : Array Nat} {ks : List Int} (h : Done es seen ks) {e : MapEntry} (he : e ∈ (leftOf es seen).toList) : Done es (seen.push e.born) (ks ++ [kI e.key]) := by
  obtain ⟨done, h1, h2, h3, h4⟩ := h.ex
  obtain ⟨k1, k2⟩ := mem_left he
  refine ⟨done ++ [e], by simp [h1], fun x hx => ?_, ?_, by simp [h4]⟩
  · rcases List.mem_append.1 hx with hx | hx
    · exact h2 x hx
    · simp only [List.mem_singleton] at hx; subst hx; exact k1
  · simp only [List.map_append, List.map_cons, List.map_nil]
    rw [List.nodup_append]
    refine ⟨h3, by simp, fun a ha b hb => ?_⟩
    simp only [List.mem_singleton] at hb
    subst hb; rintro rfl
    rw [← h1] at ha
    simp at k2
    exact k2 (by simpa using ha)
theorem nodup_of_map {α β : Type} (f : α → β) : ∀ {l : List α}, (l.map f).Nodup → l.Nodup
  | [], _ => by simp
  | a :: r, h => by
    simp only [List.map_cons, List.nodup_cons] at h
    exact List.nodup_cons.2 ⟨fun ha => h.1 (List.mem_map.2 ⟨a, ha, rfl⟩), nodup_of_map f h.2⟩
theorem Done.all {es : Array MapEntry} {seen : Array Nat} {ks : List Int} (h : Done es seen ks) {clock : Nat} (hs : StampOk es clock) (h0 : (leftOf es seen).size = 0) : ks.Perm (es.toList.map fun e => kI e.key) := by
  obtain ⟨done, h1, h2, h3, h4⟩ := h.ex
  subst h4
  have := all_seen es seen h0
  classical
  refine List.Perm.map _ (@perm_of _ (fun a b => Classical.propDecidable (a = b)) done es.toList (nodup_of_map _ h3) (nodup_of_map _ hs.1) fun x => ⟨h2 x, fun hx => ?_⟩)
  have hb := this x hx
  have hb2 : x.born ∈ done.map (·.born) := by rw [← h1]; simpa using hb
  obtain ⟨y, hy, e⟩ := List.mem_map.1 hb2
  rwa [born_inj hs.1 hx (h2 y hy) e.symm]
theorem Done.len {es : Array MapEntry} {seen : Array Nat} {ks : List Int} (h : Done es seen ks) : ks.length = seen.size := by
  obtain ⟨done, h1, h2, h3, h4⟩ := h.ex
  rw [h4, ← Array.length_toList, h1]; simp
theorem Done.le {es : Array MapEntry} {seen : Array Nat} {ks : List Int} (h : Done es seen ks) : ks.length ≤ es.toList.length := by
  obtain ⟨done, h1, h2, h3, h4⟩ := h.ex
  rw [h4, List.length_map]
  exact @nodup_len _ (fun a b => Classical.propDecidable (a = b)) _ _ (nodup_of_map _ h3) h2
theorem mt98 : MapT kit 98 27 100 (.int .u32) (.agg #[]) := ⟨by rw [kit_P]; kernel_rfl, by rw [kit_P]; kernel_rfl, by rw [kit_P]; kernel_rfl⟩
noncomputable def I73 : FnT := [(40, fi Try.f40 ⟨[], 0⟩), (73, fi Try.f73 ⟨[1000004], 0⟩)]
theorem I73ok : FnsOk kit I73 := ⟨fo40 _, fo73 _, trivial⟩
noncomputable def I74 : FnT := [(74, fi Try.f74 ⟨[], 0⟩)]
theorem I74ok : FnsOk kit I74 := ⟨fo74 _, trivial⟩
theorem collect_spec (L : List (Int × Value)) (E : List (Value × Value)) (hE : E = entA (Value.int .u32) L) (hLl : L.length < 1048576) :
    SpecM kit 40 [.fn (.func 74) [] [.p 1 (.at 0)]] [.abs (MP E), .cells 98 [.map 0]] fun q v hp1 new => q = false ∧ hp1 = [.abs (MP E), .cells 98 [.map 0]] ∧ ∃ ks n cap jc, ks.Perm (L.map (·.1)) ∧ ks.length = n ∧ v = .slc 3 0 1 (.lit 0) (.ex n) (.ex cap) ∧ new = [.cells 27 [.ints .u32 (.ex n) ks, .junk 1 (.ex jc)]] := by
  refine SpecM.mk2 fun F => ?_
  refine into I73ok 6 ?_
  conv => cbv
  refine Ok.imp (HImp.fold (S := wanSh []) 3 [] [.cells 89 [.nilslc]] (by decide) (by cbv) (.inl ⟨rfl, rfl⟩)) ?_
  refine Ok.rangeFunc [2] rfl rfl rfl fun y R hR => ?_
  conv => cbv
  refine into I74ok 6 ?_
  conv => cbv
  refine XOp.rangeMP mt98 rfl rfl fun es clock hes hst => ?_
  conv => cbv
  have hkey : ∀ e ∈ es.toList, e.key = .int .u32 (kI e.key) := fun e he => by
    have : (e.key, e.val) ∈ E := by rw [← hes]; exact List.mem_map.2 ⟨e, he, rfl⟩
    rw [hE] at this
    obtain ⟨x, hx, ex⟩ := List.mem_map.1 this
    simp only [Prod.mk.injEq] at ex
    rw [← ex.1]; rfl
  have hkeys : (es.toList.map fun e => kI e.key) = L.map (·.1) := by
    have h1 : (es.toList.map fun e => kI e.key) = ((es.toList.map fun e => (e.key, e.val)).map fun x => kI x.1) := by simp [List.map_map, Function.comp_def]
    rw [h1, hes, hE]; simp [entA, List.map_map, Function.comp_def, kI]
  have hesl : es.toList.length = L.length := by
    have := congrArg List.length hkeys
    simpa using this
  refine byInv I74ok 6 ⟨[], 0⟩ (fun a : Array Nat × List Int => ⟨[(5, .p 6 (.at 0)), (0, .fn (.yield y) [] []), (1, .p 1 (.at 0))], [.obj (.map es clock), .cells 98 [.map 0], .abs F, wanB a.2, .obj (.deferred (some [])), .av [.p 3 (.at 0)] (R .ready none), .av [.map 0] (IT clock a.1 clock)]⟩)
    (fun a => (leftOf es a.1).size) (fun a => Done es a.1 a.2) false (#[], []) (by kernel_rfl) (Done.zero es) (LeSt.mk' (List.range 7) (by decide) (by rfl) (by decide) (by cbv) (by cbv)) ?_
  rintro ⟨seen, ks⟩ hd
  simp only at hd
  obtain ⟨n, hn⟩ : ∃ x, ks.length = x := ⟨_, rfl⟩
  conv => cbv
  refine XOp.nextMP rfl rfl rfl hst.2 (Nat.le_refl _) (fun h0 => ?_) (fun e he => ?_)
  · have hperm := hd.all hst h0
    rw [hkeys] at hperm
    refine ⟨.normal, ?_⟩
    conv => cbv
    refine unfoldW 3 ks n hn rfl fun cap jc hcap hjc => ?_
    refine kcode I73ok 6 ⟨[], 0⟩ (by kernel_rfl) ?_
    conv => cbv
    refine ⟨_, _, _, _, ⟨rfl, rfl, ks, n, cap, jc, hperm, hn, rfl, rfl⟩, rfl, LeOut2.imp (HImp.at 0 rfl (BImp.toMP hes hst)) (LeOut.mk' [0, 1, 2, 7] (by decide) (by rfl) (by decide) (by cbv) (by cbv)).two⟩
  · obtain ⟨hem, _⟩ := mem_left he
    obtain ⟨k, hk⟩ : ∃ x, kI e.key = x := ⟨_, rfl⟩
    have hke := hkey e hem
    rw [hk] at hke
    obtain ⟨s2, hs2⟩ : ∃ x, seen.push e.born = x := ⟨_, rfl⟩
    obtain ⟨ks1, hks1⟩ : ∃ x, ks ++ [k] = x := ⟨_, rfl⟩
    rw [hs2]
    conv => cbv
    refine XOp.entryMP (e := e) hs2 rfl rfl rfl hem hst.1 (.tup [.i .u32 (.ex k), .raw e.val]) (fun ρ => .tup _ rfl (.cons _ _ rfl (.i hke) (.cons _ _ rfl (.raw rfl) (.nil rfl)))) ?_
    conv => cbv
    refine YCall.out2 ?_
    refine YCall.of hR 5 rfl rfl rfl (kcode (I := []) trivial 3 ⟨[], 0⟩ (by kernel_rfl) ?_)
    conv => cbv
    refine unfoldW 3 ks n hn rfl fun cap jc hcap hjc => ?_
    refine kcode (I := []) trivial 3 ⟨[], 0⟩ (by kernel_rfl) ?_
    conv => cbv
    have hnb : n < 1048576 := by have := hd.le; omega
    refine ⟨by show eqN n n; rw [eqN_eq], by show eqN (addN n jc) cap; rw [eqN_eq, addN_eq]; omega, by show apOk (addN n 1) 4; rw [apOk_eq, addN_eq]; omega, AllN.mk fun cap1 hcap1 => ?_⟩
    have hcap1 : n + 1 ≤ cap1 := by have h : addN n 1 ≤ cap1 := hcap1; rw [addN_eq] at h; exact h
    conv => cbv
    refine ⟨false, .b (.lit true), [.obj (.map es clock), .cells 98 [.map 0], .abs F, wanB ks1, .obj (.deferred (some [])), .av [.p 3 (.at 0)] (R .ready none), .av [.map 0] (IT clock s2 clock)], LeOut2.imp (HImp.fold (S := wanSh ks1) 3 [9] [.cells 89 [.slc 1 0 1 (.lit 0) (.ex (n + 1)) (.ex cap1)], .cells 27 [.ints .u32 (.ex (n + 1)) ks1, .junk 1 (.ex (subN cap1 (addN n 1)))]] (by decide) ?_ (.inr ⟨by rw [← hks1]; simp, cap1, by rw [← hks1]; simp [hn]; exact hcap1, by rw [← hks1, subN_eq, addN_eq]; simp [hn]⟩)) (LeOut.mk' (List.range 7) (by decide) rfl (by decide) (by cbv) (by cbv)).two, ?_⟩
    · conv => cbv
      have ea : addN n 1 = n + 1 := by rw [addN_eq]
      refine ⟨⟨⟨ea.symm, trivial⟩, trivial⟩, ⟨⟨ea.symm, ?_⟩, trivial⟩, trivial⟩
      show ks1 = appI ks [k]
      rw [appI_eq, hks1]
    · conv => cbv
      have hd1 := hd.push he
      rw [hk, hks1, hs2] at hd1
      have hlt := left_shrinks es seen e he
      rw [hs2] at hlt
      exact ⟨(s2, ks1), ⟨hd1, hlt⟩, _, (HImp.refl _).ext, LeSt.mk' (List.range 7) (by decide) (by rfl) (by decide) (by cbv) (by cbv)⟩
end Go.Proofs.Ytnefllaeleihcaa
end

/-
  tables.Need.
-/
section
namespace Go.Proofs.Ytnefllaeleihcaa
open Go Go.Vex
set_option maxRecDepth 20000
set_option maxHeartbeats 4000000
def insU (acc : List Int) (x : Int) : List Int := if x ∈ acc then acc else acc ++ [x]
def unitL (acc : List Int) : List (Int × Value) := acc.map fun x => (x, .agg #[])
theorem fA_unit {x : Int} : ∀ {acc : List Int} (i : Nat), (x ∉ acc → fA x (unitL acc) i = none) ∧ (x ∈ acc → ∃ j, fA x (unitL acc) i = some (j, .agg #[]))
  | [], i => by simp [unitL, fA]
  | a :: r, i => by
    have ih := fA_unit (x := x) (acc := r) (i + 1)
    simp only [unitL, List.map_cons, fA] at ih ⊢
    by_cases h : a = x
    · rw [if_pos h]; simp [h]
    · rw [if_neg h]
      refine ⟨fun h1 => ih.1 fun h2 => h1 (by simp [h2]), fun h1 => ih.2 ?_⟩
      rcases List.mem_cons.1 h1 with h2 | h2
      · exact absurd h2.symm h
      · exact h2
theorem putA_unit (acc : List Int) (x : Int) : putA x (.agg #[]) (unitL acc) = unitL (insU acc x) := by
  unfold insU
  by_cases h : x ∈ acc
  · rw [if_pos h]
    obtain ⟨j, hj⟩ := (fA_unit 0).2 h
    obtain ⟨_, h2⟩ := fA_some hj
    simp only [Nat.sub_zero] at h2
    unfold putA
    rw [hj]
    apply List.ext_getElem?
    intro k
    by_cases hk : j = k
    · subst hk
      have hlt := (List.getElem?_eq_some_iff.1 h2).1
      rw [List.getElem?_set_self hlt, h2]
    · rw [List.getElem?_set_ne hk]
  · rw [if_neg h, fA_none_putA ((fA_unit 0).1 h)]
    simp [unitL]
theorem unit_keys (acc : List Int) : (unitL acc).map (·.1) = acc := by simp [unitL, List.map_map, Function.comp_def]
/-- The first indexes of a range's pages. -/
def fstsOf (L : Rgs) (i : Nat) : List Int := (List.range ((L.V.getD i 0 / 4096 + L.G.getD i 0 - 1) / 1024 - L.V.getD i 0 / 4096 / 1024 + 1).toNat).map fun (k : Nat) => L.V.getD i 0 / 4096 / 1024 + k
def allFsts (L : Rgs) (i : Nat) : List Int := (List.range i).flatMap (fstsOf L)
def keysOf (L : Rgs) (i : Nat) : List Int := (allFsts L i).foldl insU []
def needP (L : Rgs) (m : Nat) : Int := if (List.range m).any (badR L) = true then 0 else 1 + (keysOf L m).length
theorem insU_bd {n : Nat} : ∀ (l acc : List Int), acc.Nodup ∧ (∀ x ∈ acc, 0 ≤ x ∧ x < n) → (∀ x ∈ l, 0 ≤ x ∧ x < n) → (l.foldl insU acc).Nodup ∧ (∀ x ∈ l.foldl insU acc, 0 ≤ x ∧ x < n)
  | [], acc, h, _ => h
  | x :: r, acc, h, hl => by
    refine insU_bd r (insU acc x) ?_ fun y hy => hl y (by simp [hy])
    unfold insU
    by_cases hx : x ∈ acc
    · rw [if_pos hx]; exact h
    · rw [if_neg hx]
      refine ⟨?_, fun y hy => ?_⟩
      · rw [List.nodup_append]
        refine ⟨h.1, by simp, fun a ha b hb => ?_⟩
        simp only [List.mem_singleton] at hb
        subst hb; rintro rfl; exact hx ha
      · rcases List.mem_append.1 hy with hy | hy
        · exact h.2 y hy
        · simp only [List.mem_singleton] at hy; subst hy; exact hl y (by simp)
theorem fsts_bd {L : Rgs} {m : Nat} (hL : RgsOk L m) {i : Nat} (hg : mayB (L.V.getD i 0) (L.PH.getD i 0) (L.G.getD i 0) (L.P.getD i 0) = true) : ∀ x ∈ fstsOf L i, 0 ≤ x ∧ x < (1024 : Nat) := by
  intro x hx
  simp only [fstsOf, List.mem_map, List.mem_range] at hx
  obtain ⟨k, hk, rfl⟩ := hx
  have hv := hL.v i
  have hg := of_decide_eq_true hg
  omega
theorem keys_len {L : Rgs} {m i : Nat} (hL : RgsOk L m) (hg : ∀ j, j < i → mayB (L.V.getD j 0) (L.PH.getD j 0) (L.G.getD j 0) (L.P.getD j 0) = true) : (keysOf L i).length ≤ 1024 := by
  have := insU_bd (n := 1024) (allFsts L i) [] ⟨by simp, by simp⟩ (fun x hx => by
    simp only [allFsts, List.mem_flatMap, List.mem_range] at hx
    obtain ⟨a, ha, hx⟩ := hx
    exact fsts_bd hL (hg a ha) x hx)
  exact nodup_lt 1024 _ this.1 this.2
noncomputable def I11 : FnT := [(11, fi Try.f11 ⟨[], 0⟩), (41, fi Try.f41 ⟨[], 0⟩)]
theorem I11ok : FnsOk kit I11 := ⟨fo11 _, fo41 _, trivial⟩
theorem need_spec (V PH G P : List Int) (m cap : Nat) (hL : RgsOk ⟨V, PH, G, P⟩ m) {r : Int} (hr : r = needP ⟨V, PH, G, P⟩ m) :
    Spec1 kit 11 [.slc 0 0 4 (.lit 0) (.ex m) (.ex cap)] [.ro [.rows 4 (.ex m) (rngF V PH G P)]] false (.i .i64 (.ex r)) [.ro [.rows 4 (.ex m) (rngF V PH G P)]] [] := by
  obtain ⟨h1, h2, h3, h4, h5⟩ := hL
  simp only at h1 h2 h3 h4
  refine Spec1.mk2 rfl fun F => ?_
  obtain ⟨E1, hE1⟩ : ∃ x, x = entA (Value.int .u32) (unitL []) := ⟨_, rfl⟩
  refine into I11ok 6 ?_
  conv => cbv
  refine XOpN.x (XOpN.makeB (.abs (MP E1)) (fun ρ b w h => by rw [hE1]; exact makeMP ρ b w h) ?_)
  conv => cbv
  refine byInv I11ok 6 ⟨[], 0⟩ (fun a : Int × List Int × List (Value × Value) => ⟨[(11, .i .i64 (.ex a.1)), (10, .i .i64 (.ex (ofN m))), (9, .slc 0 0 4 (.lit 0) (.ex m) (.ex cap)), (3, .map 2)], [.ro [.rows 4 (.ex m) (rngF V PH G P)], .abs F, .abs (MP a.2.2)]⟩)
    (fun a => (m - a.1).toNat) (fun a => 0 ≤ a.1 ∧ a.1 ≤ m ∧ (∀ j, j < a.1.toNat → badR ⟨V, PH, G, P⟩ j = false) ∧ a.2.1 = keysOf ⟨V, PH, G, P⟩ a.1.toNat ∧ a.2.2 = entA (Value.int .u32) (unitL a.2.1)) false (0, [], E1) (by kernel_rfl) ⟨by omega, by omega, fun j hj => by simp at hj, rfl, hE1⟩ (LeSt.mk' [0, 1, 2] (by decide) (by rfl) (by decide) (by cbv) ?_) ?_
  · conv => cbv
    exact ⟨⟨fun j _ => rngF_le _ _, trivial⟩, trivial⟩
  rintro ⟨z, acc, D⟩ ⟨hz0, hz1, hz2, hacc, hD⟩
  simp only at hz0 hz1 hz2 hacc hD
  obtain ⟨z1, hz1'⟩ : ∃ x, z + 1 = x := ⟨_, rfl⟩
  obtain ⟨k, hk⟩ : ∃ x : Nat, z.toNat = x := ⟨_, rfl⟩
  obtain ⟨vk, hvk⟩ : ∃ x, x = V.getD k 0 := ⟨_, rfl⟩
  obtain ⟨phk, hphk⟩ : ∃ x, x = PH.getD k 0 := ⟨_, rfl⟩
  obtain ⟨gk, hgk⟩ : ∃ x, x = G.getD k 0 := ⟨_, rfl⟩
  obtain ⟨pk, hpk⟩ : ∃ x, x = P.getD k 0 := ⟨_, rfl⟩
  obtain ⟨bm, hbm⟩ : ∃ x, x = mayB vk phk gk pk := ⟨_, rfl⟩
  conv => cbv
  refine Br.mk (fun hc => ?_) (fun hc => ?_)
  · have hc : z < (m : Int) := by have h : z < ofN m := ltI_t.1 hc; rw [ofN_eq] at h; exact h
    conv => cbv
    refine ⟨inR.mk hz0 hc, nLt.mk (by simp only [leafs]; omega), ?_⟩
    refine OkCall.by_spec (may_spec vk phk gk pk (hvk ▸ h1 k) (hphk ▸ h2 k) (hpk ▸ h4 k) hbm) [] (by decide) ?_ trivial ?_
    · conv => cbv
      refine ⟨⟨?_, ?_, ?_, ?_, trivial⟩, trivial⟩
      · show vk = gi V (toN z); rw [gi_eq, toN_eq, hk, hvk]
      · show phk = gi PH (toN z); rw [gi_eq, toN_eq, hk, hphk]
      · show gk = gi G (toN z); rw [gi_eq, toN_eq, hk, hgk]
      · show pk = gi P (toN z); rw [gi_eq, toN_eq, hk, hpk]
    conv => cbv
    refine Br.mk (fun hd => ?_) (fun hd => ?_)
    · have hd : notB bm = true := hd
      rw [notB_eq, Bool.not_eq_true'] at hd
      have hyes : r = 0 := by
        rw [hr, needP, if_pos]
        rw [List.any_eq_true]
        exact ⟨k, List.mem_range.2 (by omega), by simp only [badR]; rw [← hvk, ← hphk, ← hgk, ← hpk, ← hbm, hd]; rfl⟩
      conv => cbv
      refine (LeOut.mk' [0, 1] (by decide) (by rfl) (by decide) ?_ ?_).two
      · conv => cbv
        exact hyes
      · conv => cbv
        exact ⟨⟨fun j _ => rngF_le _ _, trivial⟩, trivial⟩
    · have hd : notB bm = false := hd
      rw [notB_eq, Bool.not_eq_false'] at hd
      have hgood : mayB vk phk gk pk = true := by rw [← hbm]; exact hd
      have hgd := of_decide_eq_true hgood
      have hvu : 0 ≤ vk ∧ vk < 4294967296 := hvk ▸ h1 k
      obtain ⟨fk, hfk⟩ : ∃ x, x = vk / 4096 := ⟨_, rfl⟩
      obtain ⟨lo, hlo⟩ : ∃ x, x = fk / 1024 := ⟨_, rfl⟩
      obtain ⟨hi, hhi⟩ : ∃ x, x = (fk + gk - 1) / 1024 := ⟨_, rfl⟩
      have esh : shrI .u32 vk 12 = fk := by
        have := shrI_u32 vk 12 (by decide)
        rw [show ((12 : Nat) : Int) = 12 from rfl] at this
        rw [this, hfk]; rfl
      have equ : quoI .u32 fk 1024 = lo := by rw [quoI_eq, Int.tdiv_eq_ediv_of_nonneg (by omega), wrap_u32, hlo]; omega
      have hgv : gi V (toN z) = vk := by rw [gi_eq, toN_eq, hk, hvk]
      conv => cbv
      refine byInv I11ok 6 ⟨[], 0⟩ (fun a : Int × List Int × List (Value × Value) => ⟨[(7, .i .u32 (.ex a.1)), (6, .i .u32 (.ex fk)), (5, .p 3 (.at 0)), (11, .i .i64 (.ex z)), (10, .i .i64 (.ex (ofN m))), (9, .slc 0 0 4 (.lit 0) (.ex m) (.ex cap)), (3, .map 2)], [.ro [.rows 4 (.ex m) (rngF V PH G P)], .abs F, .abs (MP a.2.2), .cells 31 [.i .u32 (.ex vk), .i .u32 (.ex phk), .i .i64 (.ex gk), .i .u8 (.ex pk)]]⟩)
        (fun a => (hi + 1 - a.1).toNat) (fun a => lo ≤ a.1 ∧ a.1 ≤ hi + 1 ∧ a.2.1 = ((List.range (a.1 - lo).toNat).map fun (j : Nat) => lo + j).foldl insU acc ∧ a.2.2 = entA (Value.int .u32) (unitL a.2.1)) false (lo, acc, D) (by kernel_rfl) ⟨by omega, by omega, by simp, hD⟩ (LeSt.mk' (List.range 4) (by decide) (by rfl) (by decide) ?_ ?_) ?_
      · conv => cbv
        refine ⟨?_, ?_, trivial⟩
        · show lo = quoI .u32 (shrI .u32 (gi V (toN z)) 12) 1024; rw [hgv, esh, equ]
        · show fk = shrI .u32 (gi V (toN z)) 12; rw [hgv, esh]
      · conv => cbv
        refine ⟨⟨fun j _ => rngF_le _ _, trivial⟩, ⟨?_, ?_, ?_, ?_, trivial⟩, trivial⟩
        · show vk = gi V (toN z); rw [gi_eq, toN_eq, hk, hvk]
        · show phk = gi PH (toN z); rw [gi_eq, toN_eq, hk, hphk]
        · show gk = gi G (toN z); rw [gi_eq, toN_eq, hk, hgk]
        · show pk = gi P (toN z); rw [gi_eq, toN_eq, hk, hpk]
      rintro ⟨x, acc2, D2⟩ ⟨hx0, hx1, hacc2, hD2⟩
      simp only at hx0 hx1 hacc2 hD2
      obtain ⟨x1, hx1'⟩ : ∃ y, y = x + 1 := ⟨_, rfl⟩
      obtain ⟨acc3, hacc3⟩ : ∃ y, y = insU acc2 x := ⟨_, rfl⟩
      obtain ⟨D3, hD3⟩ : ∃ y, y = entA (Value.int .u32) (putA x (.agg #[]) (unitL acc2)) := ⟨_, rfl⟩
      have ehi : quoI .u32 (subI .u32 (addI .u32 fk (convI .u32 gk)) 1) 1024 = hi := by
        have e1 : subI .u32 (addI .u32 fk (convI .u32 gk)) 1 = fk + gk - 1 := by
          rw [convI_eq, addI_eq, subI_eq, wrap_u32, wrap_u32, wrap_u32]; omega
        rw [e1, quoI_eq, Int.tdiv_eq_ediv_of_nonneg (by omega), wrap_u32, hhi]; omega
      conv => cbv
      refine Br.mk (fun he => ?_) (fun he => ?_)
      · have he : leI x (quoI .u32 (subI .u32 (addI .u32 fk (convI .u32 gk)) 1) 1024) = true := he
        rw [ehi, leI_t] at he
        conv => cbv
        refine XOpN.x (updateE hD2 mt98 ku27 rfl rfl rfl rfl x (fun ρ c h => den_i h) (.agg #[]) (fun ρ c h => den_unit h) hD3 ?_)
        conv => cbv
        refine ⟨(x1, acc3, D3), ⟨⟨by show lo ≤ x1; omega, by show x1 ≤ hi + 1; omega, ?_, by show D3 = entA _ (unitL acc3); rw [hD3, putA_unit, hacc3]⟩, by show (hi + 1 - x1).toNat < (hi + 1 - x).toNat; omega⟩, _, (HImp.refl _).ext, LeSt.mk' (List.range 4) (by decide) (by rfl) (by decide) ?_ ?_⟩
        · show acc3 = ((List.range (x1 - lo).toNat).map fun (j : Nat) => lo + j).foldl insU acc
          have ex : (x1 - lo).toNat = (x - lo).toNat + 1 := by omega
          rw [ex, List.range_succ, List.map_append, List.foldl_append, ← hacc2, hacc3]
          have : lo + ((x - lo).toNat : Int) = x := by omega
          simp only [List.map_cons, List.map_nil, List.foldl_cons, List.foldl_nil]
          rw [this]
        · conv => cbv
          refine ⟨?_, trivial⟩
          show x1 = addI .u32 x 1
          rw [addI_eq, wrap_u32, hx1']; omega
        · conv => cbv
          exact ⟨⟨fun j _ => rngF_le _ _, trivial⟩, trivial⟩
      · have he : leI x (quoI .u32 (subI .u32 (addI .u32 fk (convI .u32 gk)) 1) 1024) = false := he
        rw [ehi, leI_f] at he
        have hx : x = hi + 1 := by omega
        have hend : acc2 = keysOf ⟨V, PH, G, P⟩ z1.toNat := by
          have ez : z1.toNat = k + 1 := by omega
          rw [ez, keysOf, allFsts, List.range_succ, List.flatMap_append, List.foldl_append]
          rw [hacc2, hacc, hk, keysOf, allFsts, hx]
          simp only [List.flatMap_cons, List.flatMap_nil, List.append_nil, fstsOf]
          rw [← hvk, ← hgk, ← hfk, ← hlo, ← hhi]
          have : (hi + 1 - lo).toNat = (hi - lo + 1).toNat := by omega
          rw [this]
        conv => cbv
        refine ⟨(z1, acc2, D2), ⟨⟨by show 0 ≤ z1; omega, by show z1 ≤ (m : Int); omega, fun j hj => ?_, hend, hD2⟩, by show ((m : Int) - z1).toNat < ((m : Int) - z).toNat; omega⟩, _, (HImp.refl _).ext, LeSt.mk' (List.range 3) (by decide) (by rfl) (by decide) ?_ ?_⟩
        · by_cases hjz : j < z.toNat
          · exact hz2 j hjz
          · have : j = k := by have hj : j < z1.toNat := hj; omega
            subst this
            simp only [badR]; rw [← hvk, ← hphk, ← hgk, ← hpk, hgood]; rfl
        · conv => cbv
          refine ⟨?_, trivial⟩
          show z1 = addI .i64 z 1
          rw [addI_eq, IntWalk.i64_in _ (by omega), hz1']
        · conv => cbv
          exact ⟨⟨fun j _ => rngF_le _ _, trivial⟩, trivial⟩
  · have hc : (m : Int) ≤ z := by have h : ofN m ≤ z := ltI_f.1 hc; rw [ofN_eq] at h; exact h
    have hzm : z.toNat = m := by omega
    rw [hzm] at hacc hz2
    have hnb : ¬ (List.range m).any (badR ⟨V, PH, G, P⟩) = true := by
      rw [List.any_eq_true]
      rintro ⟨j, hj, hb⟩
      rw [hz2 j (List.mem_range.1 hj)] at hb; cases hb
    have hg : ∀ j, j < m → mayB (V.getD j 0) (PH.getD j 0) (G.getD j 0) (P.getD j 0) = true := fun j hj => by
      have := hz2 j hj
      simp only [badR] at this
      simpa using this
    have hal : acc.length ≤ 1024 := by rw [hacc]; exact keys_len ⟨h1, h2, h3, h4, h5⟩ hg
    have hra : r = 1 + (acc.length : Int) := by rw [hr, needP, if_neg hnb, hacc]
    conv => cbv
    refine OkCall.by_specM (collect_spec (unitL acc) D hD (by simp [unitL]; omega)) [2, 3] (by decide) (by cbv) (by cbv) ?_
    rintro q v hp1 new ⟨rfl, rfl, ks, n, cap, jc, hperm, hn, rfl, rfl⟩
    have hna : n = acc.length := by
      have := hperm.length_eq
      rw [unit_keys] at this; omega
    conv => cbv
    refine (LeOut.mk' [0, 1] (by decide) (by rfl) (by decide) ?_ ?_).two
    · conv => cbv
      show r = addI .i64 1 (ofN n)
      rw [addI_eq, ofN_eq, IntWalk.i64_in _ (by omega), hra, hna]
    · conv => cbv
      exact ⟨⟨fun j _ => rngF_le _ _, trivial⟩, trivial⟩
end Go.Proofs.Ytnefllaeleihcaa
end

/-
  cloisterref4: page, Encode; cloisterref7: May.
-/
section
namespace Go.Proofs.Ytnefllaeleihcaa
open Go Go.Vex
set_option maxRecDepth 20000
set_option maxHeartbeats 4000000
noncomputable def I97 : FnT := [(97, fi Try.f97 ⟨[], 0⟩)]
theorem I97ok : FnsOk kit I97 := ⟨fo97 _, trivial⟩
theorem rpage_spec (p : Int) {b : Bool} (hb : b = permOk p) : Spec1 kit 97 [.i .u8 (.ex p)] [] true (.b (.ex b)) [] [] := by
  refine Spec1.mk2 rfl fun F => ?_
  refine into I97ok 6 ?_
  conv => cbv
  refine Br.mk (fun h1 => ?_) (fun h1 => ?_)
  · have h1 : p = 1 := eqI_t.1 h1
    conv => cbv
    refine (LeOut.mk' [0] (by decide) rfl (by decide) ?_ (by cbv)).two
    conv => cbv
    show b = _
    rw [hb, h1]; first | rfl | (rw [show eqI 5 7 = false from eqI_f.2 (by decide)]; rfl)
  · have h1 : p ≠ 1 := eqI_f.1 h1
    conv => cbv
    refine Br.mk (fun h3 => ?_) (fun h3 => ?_)
    · have h3 : p = 3 := eqI_t.1 h3
      conv => cbv
      refine (LeOut.mk' [0] (by decide) rfl (by decide) ?_ (by cbv)).two
      conv => cbv
      show b = _
      rw [hb, h3]; first | rfl | (rw [show eqI 5 7 = false from eqI_f.2 (by decide)]; rfl)
    · have h3 : p ≠ 3 := eqI_f.1 h3
      conv => cbv
      refine Br.mk (fun h4 => ?_) (fun h4 => ?_)
      · have h4 : p = 4 := eqI_t.1 h4
        conv => cbv
        refine (LeOut.mk' [0] (by decide) rfl (by decide) ?_ (by cbv)).two
        conv => cbv
        show b = _
        rw [hb, h4]; first | rfl | (rw [show eqI 5 7 = false from eqI_f.2 (by decide)]; rfl)
      · have h4 : p ≠ 4 := eqI_f.1 h4
        conv => cbv
        refine Br.mk (fun h5 => ?_) (fun h5 => ?_)
        · have h5 : p = 5 := eqI_t.1 h5
          conv => cbv
          refine (LeOut.mk' [0] (by decide) rfl (by decide) ?_ (by cbv)).two
          conv => cbv
          show b = _
          rw [hb, h5]; first | rfl | (rw [show eqI 5 7 = false from eqI_f.2 (by decide)]; rfl)
        · have h5 : p ≠ 5 := eqI_f.1 h5
          conv => cbv
          refine (LeOut.mk' [0] (by decide) rfl (by decide) ?_ (by cbv)).two
          conv => cbv
          show b = eqI p 7
          rw [hb, eqI_eq]; simp [permOk, h1, h3, h4, h5]
noncomputable def I94 : FnT := [(94, fi Try.f94 ⟨[], 0⟩)]
theorem I94ok : FnsOk kit I94 := ⟨fo94 _, trivial⟩
theorem renc_spec (k p f : Int) (hp : 0 ≤ p ∧ p < 256) (hf : 0 ≤ f ∧ f < 4294967296) {e w : Int} (he : e = encE k p f) (hw : w = encW k p f) :
    Spec1 kit 94 [.agg [.i .i64 (.ex k), .i .u8 (.ex p), .i .u32 (.ex f)]] [] false (.tup [.i .u32 (.ex w), .i .i64 (.ex e)]) [] [] := by
  refine Spec1.mk2 rfl fun F => ?_
  obtain ⟨b, hb⟩ : ∃ x, x = permOk p := ⟨_, rfl⟩
  refine into I94ok 6 ?_
  conv => cbv
  refine Br.mk (fun hk => ?_) (fun hk => ?_)
  · have hk : k = 0 := eqI_t.1 hk
    conv => cbv
    refine Br.mk (fun h1 => ?_) (fun h1 => ?_)
    · have h1 : p ≠ 0 := neI_t.1 h1
      conv => cbv
      refine (LeOut.mk' [0] (by decide) rfl (by decide) ?_ (by cbv)).two
      conv => cbv
      exact ⟨by rw [hw]; simp [encW, encE, hk, h1], by rw [he]; simp [encE, hk, h1], trivial⟩
    · have h1 : p = 0 := neI_f.1 h1
      conv => cbv
      refine Br.mk (fun h2 => ?_) (fun h2 => ?_)
      · have h2 : f ≠ 0 := neI_t.1 h2
        have h3 : 0 < f := by omega
        conv => cbv
        refine (LeOut.mk' [0] (by decide) rfl (by decide) ?_ (by cbv)).two
        conv => cbv
        exact ⟨by rw [hw]; simp [encW, encE, hk, h1, h3], by rw [he]; simp [encE, hk, h1, h3], trivial⟩
      · have h2 : f = 0 := neI_f.1 h2
        conv => cbv
        refine (LeOut.mk' [0] (by decide) rfl (by decide) ?_ (by cbv)).two
        conv => cbv
        exact ⟨by rw [hw]; simp [encW, encE, hk, h1, h2], by rw [he]; simp [encE, hk, h1, h2], trivial⟩
  · have hk : k ≠ 0 := eqI_f.1 hk
    conv => cbv
    refine Br.mk (fun hk1 => ?_) (fun hk1 => ?_)
    · have hk1 : k = 1 := eqI_t.1 hk1
      conv => cbv
      refine OkCall.by_spec (rpage_spec p hb) [] (by decide) (by cbv) trivial ?_
      conv => cbv
      refine Br.mk (fun h1 => ?_) (fun h1 => ?_)
      · have h1 : notB b = true := h1
        rw [notB_eq, Bool.not_eq_true', hb] at h1
        conv => cbv
        refine (LeOut.mk' [0] (by decide) rfl (by decide) ?_ (by cbv)).two
        conv => cbv
        exact ⟨by rw [hw]; simp [encW, encE, hk1, h1], by rw [he]; simp [encE, hk1, h1], trivial⟩
      · have h1 : notB b = false := h1
        rw [notB_eq, Bool.not_eq_false', hb] at h1
        conv => cbv
        refine Br.mk (fun h2 => ?_) (fun h2 => ?_)
        · have h2 : 4095 < f := ltI_t.1 h2
          conv => cbv
          refine (LeOut.mk' [0] (by decide) rfl (by decide) ?_ (by cbv)).two
          conv => cbv
          exact ⟨by rw [hw]; simp [encW, encE, hk1, h1, h2], by rw [he]; simp [encE, hk1, h1, h2], trivial⟩
        · have h2 : f ≤ 4095 := ltI_f.1 h2
          have h3 : ¬ 4095 < f := by omega
          conv => cbv
          refine (LeOut.mk' [0] (by decide) rfl (by decide) ?_ (by cbv)).two
          conv => cbv
          refine ⟨?_, by rw [he]; simp [encE, hk1, h1, h3], trivial⟩
          show w = addI .u32 (addI .u32 (mulI .u32 4096 f) (mulI .u32 2 (convI .u32 p))) 1
          have : w = 4096 * f + 2 * p + 1 := by rw [hw]; simp [encW, encE, hk1, h1, h3]
          rw [this, mulI_eq, mulI_eq, addI_eq, addI_eq, convI_eq, wrap_u32, wrap_u32, wrap_u32, wrap_u32, wrap_u32]; omega
    · have hk1 : k ≠ 1 := eqI_f.1 hk1
      conv => cbv
      refine Br.mk (fun hk2 => ?_) (fun hk2 => ?_)
      · have hk2 : k = 2 := eqI_t.1 hk2
        conv => cbv
        refine Br.mk (fun h1 => ?_) (fun h1 => ?_)
        · have h1 : p ≠ 0 := neI_t.1 h1
          conv => cbv
          refine (LeOut.mk' [0] (by decide) rfl (by decide) ?_ (by cbv)).two
          conv => cbv
          exact ⟨by rw [hw]; simp [encW, encE, hk2, h1], by rw [he]; simp [encE, hk2, h1], trivial⟩
        · have h1 : p = 0 := neI_f.1 h1
          conv => cbv
          refine Br.mk (fun h2 => ?_) (fun h2 => ?_)
          · have h2 : 4095 < f := ltI_t.1 h2
            conv => cbv
            refine (LeOut.mk' [0] (by decide) rfl (by decide) ?_ (by cbv)).two
            conv => cbv
            exact ⟨by rw [hw]; simp [encW, encE, hk2, h1, h2], by rw [he]; simp [encE, hk2, h1, h2], trivial⟩
          · have h2 : f ≤ 4095 := ltI_f.1 h2
            have h3 : ¬ 4095 < f := by omega
            conv => cbv
            refine (LeOut.mk' [0] (by decide) rfl (by decide) ?_ (by cbv)).two
            conv => cbv
            refine ⟨?_, by rw [he]; simp [encE, hk2, h1, h3], trivial⟩
            show w = addI .u32 (mulI .u32 4096 f) 17
            have : w = 4096 * f + 17 := by rw [hw]; simp [encW, encE, hk2, h1, h3]
            rw [this, mulI_eq, addI_eq, wrap_u32, wrap_u32]; omega
      · have hk2 : k ≠ 2 := eqI_f.1 hk2
        conv => cbv
        refine (LeOut.mk' [0] (by decide) rfl (by decide) ?_ (by cbv)).two
        conv => cbv
        exact ⟨by rw [hw]; simp [encW, encE, hk, hk1, hk2], by rw [he]; simp [encE, hk, hk1, hk2], trivial⟩
end Go.Proofs.Ytnefllaeleihcaa
end

/-
  cloisterref7: May, all, Need.
-/
section
namespace Go.Proofs.Ytnefllaeleihcaa
open Go Go.Vex
set_option maxRecDepth 20000
set_option maxHeartbeats 4000000
noncomputable def I75 : FnT := [(75, fi Try.f75 ⟨[], 0⟩)]
theorem I75ok : FnsOk kit I75 := ⟨fo75 _, trivial⟩
theorem enc0 (p : Int) {ph : Int} (h : 0 ≤ ph) : (encE 1 p (ph / 4096) = 0 ∧ ph / 4096 ≤ 4095) ↔ (encE 1 p 0 = 0 ∧ ph / 4096 ≤ 4095) := by
  by_cases hq : ph / 4096 ≤ 4095
  · have : ¬ 4095 < ph / 4096 := by omega
    simp [encE, hq, this]
  · simp [hq]
theorem rmay_spec (v ph g p : Int) (hv : 0 ≤ v ∧ v < 4294967296) (hph : 0 ≤ ph ∧ ph < 4294967296) (hp : 0 ≤ p ∧ p < 256) {b : Bool} (hb : b = mayB v ph g p) :
    Spec1 kit 75 [.agg [.i .u32 (.ex v), .i .u32 (.ex ph), .i .i64 (.ex g), .i .u8 (.ex p)]] [] false (.b (.ex b)) [] [] := by
  refine Spec1.mk2 rfl fun F => ?_
  refine into I75ok 6 ?_
  obtain ⟨e, he⟩ : ∃ x, x = encE 1 p 0 := ⟨_, rfl⟩
  obtain ⟨w, hw⟩ : ∃ x, x = encW 1 p 0 := ⟨_, rfl⟩
  have r1 : remI v 4096 = v % 4096 := by rw [remI_eq]; exact Int.tmod_eq_emod_of_nonneg hv.1
  have r2 : remI ph 4096 = ph % 4096 := by rw [remI_eq]; exact Int.tmod_eq_emod_of_nonneg hph.1
  have s1 : subI .i64 1048576 (convI .i64 (quoI .u32 v 4096)) = 1048576 - v / 4096 := by
    have q : quoI .u32 v 4096 = v / 4096 := by rw [quoI_eq, Int.tdiv_eq_ediv_of_nonneg hv.1, wrap_u32]; omega
    rw [q, convI_eq, subI_eq, IntWalk.i64_in (v / 4096) (by omega), IntWalk.i64_in _ (by omega)]
  have s2 : subI .i64 4096 (convI .i64 (quoI .u32 ph 4096)) = 4096 - ph / 4096 := by
    have q : quoI .u32 ph 4096 = ph / 4096 := by rw [quoI_eq, Int.tdiv_eq_ediv_of_nonneg hph.1, wrap_u32]; omega
    rw [q, convI_eq, subI_eq, IntWalk.i64_in (ph / 4096) (by omega), IntWalk.i64_in _ (by omega)]
  have hiff : b = true ↔ encE 1 p 0 = 0 ∧ v % 4096 = 0 ∧ ph % 4096 = 0 ∧ 1 ≤ g ∧ g ≤ 1048576 - v / 4096 ∧ g ≤ 4096 - ph / 4096 := by
    rw [hb, mayB, decide_eq_true_eq]
    constructor
    · rintro ⟨h1, h2, h3, h4, h5, h6⟩
      exact ⟨((enc0 p hph.1).1 ⟨h1, by omega⟩).1, h2, h3, h4, h5, h6⟩
    · rintro ⟨h1, h2, h3, h4, h5, h6⟩
      exact ⟨((enc0 p hph.1).2 ⟨h1, by omega⟩).1, h2, h3, h4, h5, h6⟩
  have hno : ¬ (encE 1 p 0 = 0 ∧ v % 4096 = 0 ∧ ph % 4096 = 0 ∧ 1 ≤ g ∧ g ≤ 1048576 - v / 4096 ∧ g ≤ 4096 - ph / 4096) → b = false := fun h => by
    cases b with
    | false => rfl
    | true => exact absurd (hiff.1 rfl) h
  conv => cbv
  refine OkCall.by_spec (renc_spec 1 p 0 hp (by omega) he hw) [] (by decide) (by cbv) trivial ?_
  conv => cbv
  refine Br.mk (fun h1 => ?_) (fun h1 => ?_)
  · have h1 : e ≠ 0 := neI_t.1 h1
    have hf := hno (fun h => h1 (he.trans h.1))
    conv => cbv
    refine (LeOut.mk' [0] (by decide) rfl (by decide) ?_ (by cbv)).two
    conv => cbv
    exact hf
  · have h1 : e = 0 := neI_f.1 h1
    conv => cbv
    refine Br.mk (fun h2 => ?_) (fun h2 => ?_)
    · have h2 : v % 4096 ≠ 0 := by have h : remI v 4096 ≠ 0 := neI_t.1 h2; rw [r1] at h; exact h
      have hf := hno (fun h => h2 h.2.1)
      conv => cbv
      refine (LeOut.mk' [0] (by decide) rfl (by decide) ?_ (by cbv)).two
      conv => cbv
      exact hf
    · have h2 : v % 4096 = 0 := by have h : remI v 4096 = 0 := neI_f.1 h2; rw [r1] at h; exact h
      conv => cbv
      refine Br.mk (fun h3 => ?_) (fun h3 => ?_)
      · have h3 : ph % 4096 ≠ 0 := by have h : remI ph 4096 ≠ 0 := neI_t.1 h3; rw [r2] at h; exact h
        have hf := hno (fun h => h3 h.2.2.1)
        conv => cbv
        refine (LeOut.mk' [0] (by decide) rfl (by decide) ?_ (by cbv)).two
        conv => cbv
        exact hf
      · have h3 : ph % 4096 = 0 := by have h : remI ph 4096 = 0 := neI_f.1 h3; rw [r2] at h; exact h
        conv => cbv
        refine Br.mk (fun h4 => ?_) (fun h4 => ?_)
        · have h4 : g < 1 := ltI_t.1 h4
          have hf := hno (fun h => by omega)
          conv => cbv
          refine (LeOut.mk' [0] (by decide) rfl (by decide) ?_ (by cbv)).two
          conv => cbv
          exact hf
        · have h4 : 1 ≤ g := ltI_f.1 h4
          conv => cbv
          refine Br.mk (fun h5 => ?_) (fun h5 => ?_)
          · have h5 : g ≤ 1048576 - v / 4096 := by have h : g ≤ subI .i64 1048576 (convI .i64 (quoI .u32 v 4096)) := leI_t.1 h5; rw [s1] at h; exact h
            conv => cbv
            refine (LeOut.mk' [0] (by decide) rfl (by decide) ?_ (by cbv)).two
            conv => cbv
            show b = leI g (subI .i64 4096 (convI .i64 (quoI .u32 ph 4096)))
            rw [s2, leI_eq]
            by_cases h6 : g ≤ 4096 - ph / 4096
            · rw [decide_eq_true h6]; exact hiff.2 ⟨he.symm.trans h1, h2, h3, h4, h5, h6⟩
            · rw [decide_eq_false h6]; exact hno (fun h => h6 h.2.2.2.2.2)
          · have h5 : ¬ g ≤ 1048576 - v / 4096 := by have h : subI .i64 1048576 (convI .i64 (quoI .u32 v 4096)) < g := leI_f.1 h5; rw [s1] at h; omega
            have hf := hno (fun h => h5 h.2.2.2.2.1)
            conv => cbv
            refine (LeOut.mk' [0] (by decide) rfl (by decide) ?_ (by cbv)).two
            conv => cbv
            exact hf
noncomputable def I42 : FnT := [(42, fi Try.f42 ⟨[], 0⟩)]
theorem I42ok : FnsOk kit I42 := ⟨fo42 _, trivial⟩
theorem rall_spec (V PH G P : List Int) (m cap : Nat) (hL : RgsOk ⟨V, PH, G, P⟩ m) {b : Bool} (hb : b = !(List.range m).any (badR ⟨V, PH, G, P⟩)) :
    Spec1 kit 42 [.slc 0 0 4 (.lit 0) (.ex m) (.ex cap)] [.ro [.rows 4 (.ex m) (rngF V PH G P)]] false (.b (.ex b)) [.ro [.rows 4 (.ex m) (rngF V PH G P)]] [] := by
  obtain ⟨h1, h2, h3, h4, h5⟩ := hL
  simp only at h1 h2 h3 h4
  refine Spec1.mk2 rfl fun F => ?_
  refine into I42ok 6 ?_
  conv => cbv
  refine byInv I42ok 6 ⟨[], 0⟩ (fun z : Int => ⟨[(3, .i .i64 (.ex z)), (0, .slc 0 0 4 (.lit 0) (.ex m) (.ex cap))], [.ro [.rows 4 (.ex m) (rngF V PH G P)], .abs F]⟩)
    (fun z => (m - z).toNat) (fun z => 0 ≤ z ∧ z ≤ m ∧ ∀ j, j < z.toNat → badR ⟨V, PH, G, P⟩ j = false) false 0 (by kernel_rfl) ⟨by omega, by omega, fun j hj => by simp at hj⟩ (LeSt.mk' [0, 1] (by decide) (by rfl) (by decide) (by cbv) ?_) ?_
  · conv => cbv
    exact ⟨⟨fun j _ => rngF_le _ _, trivial⟩, trivial⟩
  rintro z ⟨hz0, hz1, hz2⟩
  obtain ⟨z1, hz1'⟩ : ∃ x, z + 1 = x := ⟨_, rfl⟩
  obtain ⟨k, hk⟩ : ∃ x : Nat, z.toNat = x := ⟨_, rfl⟩
  obtain ⟨vk, hvk⟩ : ∃ x, x = V.getD k 0 := ⟨_, rfl⟩
  obtain ⟨phk, hphk⟩ : ∃ x, x = PH.getD k 0 := ⟨_, rfl⟩
  obtain ⟨gk, hgk⟩ : ∃ x, x = G.getD k 0 := ⟨_, rfl⟩
  obtain ⟨pk, hpk⟩ : ∃ x, x = P.getD k 0 := ⟨_, rfl⟩
  obtain ⟨bm, hbm⟩ : ∃ x, x = mayB vk phk gk pk := ⟨_, rfl⟩
  conv => cbv
  refine Br.mk (fun hc => ?_) (fun hc => ?_)
  · have hc : z < (m : Int) := by have h : z < ofN m := ltI_t.1 hc; rw [ofN_eq] at h; exact h
    conv => cbv
    refine ⟨inR.mk hz0 hc, nLt.mk (by simp only [leafs]; omega), ?_⟩
    refine OkCall.by_spec (rmay_spec vk phk gk pk (hvk ▸ h1 k) (hphk ▸ h2 k) (hpk ▸ h4 k) hbm) [] (by decide) ?_ trivial ?_
    · conv => cbv
      refine ⟨⟨?_, ?_, ?_, ?_, trivial⟩, trivial⟩
      · show vk = gi V (toN z); rw [gi_eq, toN_eq, hk, hvk]
      · show phk = gi PH (toN z); rw [gi_eq, toN_eq, hk, hphk]
      · show gk = gi G (toN z); rw [gi_eq, toN_eq, hk, hgk]
      · show pk = gi P (toN z); rw [gi_eq, toN_eq, hk, hpk]
    conv => cbv
    refine Br.mk (fun hd => ?_) (fun hd => ?_)
    · have hd : notB bm = true := hd
      rw [notB_eq, Bool.not_eq_true'] at hd
      have hno : b = false := by
        rw [hb, Bool.not_eq_false', List.any_eq_true]
        exact ⟨k, List.mem_range.2 (by omega), by simp only [badR]; rw [← hvk, ← hphk, ← hgk, ← hpk, ← hbm, hd]; rfl⟩
      conv => cbv
      refine (LeOut.mk' [0, 1] (by decide) (by rfl) (by decide) ?_ ?_).two
      · conv => cbv
        exact hno
      · conv => cbv
        exact ⟨⟨fun j _ => rngF_le _ _, trivial⟩, trivial⟩
    · have hd : notB bm = false := hd
      rw [notB_eq, Bool.not_eq_false'] at hd
      conv => cbv
      refine ⟨z1, ⟨⟨by omega, by show z1 ≤ (m : Int); omega, fun j hj => ?_⟩, by show ((m : Int) - z1).toNat < ((m : Int) - z).toNat; omega⟩, _, (HImp.refl _).ext, LeSt.mk' [0, 1] (by decide) (by rfl) (by decide) ?_ ?_⟩
      · by_cases hjz : j < z.toNat
        · exact hz2 j hjz
        · have : j = k := by omega
          subst this
          simp only [badR]; rw [← hvk, ← hphk, ← hgk, ← hpk, ← hbm, hd]; rfl
      · conv => cbv
        refine ⟨?_, trivial⟩
        show z1 = addI .i64 z 1
        rw [addI_eq, IntWalk.i64_in _ (by omega), hz1']
      · conv => cbv
        exact ⟨⟨fun j _ => rngF_le _ _, trivial⟩, trivial⟩
  · have hc : (m : Int) ≤ z := by have h : ofN m ≤ z := ltI_f.1 hc; rw [ofN_eq] at h; exact h
    have hyes : b = true := by
      rw [hb, Bool.not_eq_true', List.any_eq_false]
      intro x hx
      have := hz2 x (by have := List.mem_range.1 hx; omega)
      rw [this]; decide
    conv => cbv
    refine (LeOut.mk' [0, 1] (by decide) (by rfl) (by decide) ?_ ?_).two
    · conv => cbv
      exact hyes
    · conv => cbv
      exact ⟨⟨fun j _ => rngF_le _ _, trivial⟩, trivial⟩
noncomputable def usedF (u : Nat → Bool) (j : Nat) : List SV := [.b (.ex (u j))]
theorem usedF_le (u : Nat → Bool) (τ : Nat → Nat) (j : Nat) : leL (usedF u j) (renL τ (usedF u j)) := ⟨rfl, trivial⟩
def UsedIs (u : Nat → Bool) (acc : List Int) : Prop := ∀ j : Nat, u j = decide ((j : Int) ∈ acc)
noncomputable def I13 : FnT := [(13, fi Try.f13 ⟨[], 0⟩)]
theorem I13ok : FnsOk kit I13 := ⟨fo13 _, trivial⟩
theorem rneed_spec (V PH G P : List Int) (m cap : Nat) (hL : RgsOk ⟨V, PH, G, P⟩ m) {r : Int} (hr : r = needP ⟨V, PH, G, P⟩ m) :
    Spec1 kit 13 [.slc 0 0 4 (.lit 0) (.ex m) (.ex cap)] [.ro [.rows 4 (.ex m) (rngF V PH G P)]] false (.i .i64 (.ex r)) [.ro [.rows 4 (.ex m) (rngF V PH G P)]] [] := by
  have hL0 := hL
  obtain ⟨h1, h2, h3, h4, h5⟩ := hL
  simp only at h1 h2 h3 h4
  refine Spec1.mk2 rfl fun F => ?_
  obtain ⟨b, hb⟩ : ∃ x, x = !(List.range m).any (badR ⟨V, PH, G, P⟩) := ⟨_, rfl⟩
  refine into I13ok 6 ?_
  conv => cbv
  refine OkCall.by_spec (rall_spec V PH G P m cap hL0 hb) [0] (by decide) (by cbv) ?_ ?_
  · conv => cbv
    exact ⟨⟨fun j _ => rngF_le _ _, trivial⟩, trivial⟩
  conv => cbv
  refine Br.mk (fun hc => ?_) (fun hc => ?_)
  · have hc : notB b = true := hc
    rw [notB_eq, hb, Bool.not_not] at hc
    have hr0 : r = 0 := by rw [hr, needP, if_pos hc]
    conv => cbv
    refine (LeOut.mk' [0, 1] (by decide) (by rfl) (by decide) ?_ ?_).two
    · conv => cbv
      exact hr0
    · conv => cbv
      exact ⟨⟨fun j _ => rngF_le _ _, trivial⟩, trivial⟩
  · have hc : notB b = false := hc
    rw [notB_eq, hb, Bool.not_not] at hc
    have hz2 : ∀ j, j < m → badR ⟨V, PH, G, P⟩ j = false := fun j hj => by
      have := List.any_eq_false.1 hc j (List.mem_range.2 hj)
      simpa using this
    have hg : ∀ j, j < m → mayB (V.getD j 0) (PH.getD j 0) (G.getD j 0) (P.getD j 0) = true := fun j hj => by
      have := hz2 j hj
      simp only [badR] at this
      simpa using this
    rw [needP, if_neg (by rw [hc]; decide)] at hr
    conv => cbv
    refine ⟨by show mkOk 1024 1024 1; rw [mkOk_eq]; decide, ?_⟩
    refine byInv I13ok 6 ⟨[], 0⟩ (fun a : Int × List Int × Int × (Nat → Bool) => ⟨[(6, .i .i64 (.ex a.1)), (5, .i .i64 (.ex a.2.2.1)), (4, .slc 2 0 1 (.lit 0) (.lit 1024) (.lit 1024)), (0, .slc 0 0 4 (.lit 0) (.ex m) (.ex cap))], [.ro [.rows 4 (.ex m) (rngF V PH G P)], .abs F, .cells 4 [.rows 1 (.lit 1024) (usedF a.2.2.2)]]⟩)
      (fun a => (m - a.1).toNat) (fun a => 0 ≤ a.1 ∧ a.1 ≤ m ∧ a.2.1 = keysOf ⟨V, PH, G, P⟩ a.1.toNat ∧ a.2.2.1 = 1 + (a.2.1.length : Int) ∧ UsedIs a.2.2.2 a.2.1) false (0, [], 1, fun _ => false) (by kernel_rfl) ⟨by omega, by omega, rfl, rfl, fun j => by simp⟩ (LeSt.mk' [0, 1, 3] (by decide) (by rfl) (by decide) (by cbv) ?_) ?_
    · conv => cbv
      exact ⟨⟨fun j _ => rngF_le _ _, trivial⟩, ⟨fun j _ => ⟨rfl, trivial⟩, trivial⟩, trivial⟩
    rintro ⟨z, acc, cn, us⟩ ⟨hz0, hz1, hacc, hcn, hus⟩
    simp only at hz0 hz1 hacc hcn hus
    obtain ⟨z1, hz1'⟩ : ∃ x, z + 1 = x := ⟨_, rfl⟩
    obtain ⟨k, hk⟩ : ∃ x : Nat, z.toNat = x := ⟨_, rfl⟩
    obtain ⟨vk, hvk⟩ : ∃ x, x = V.getD k 0 := ⟨_, rfl⟩
    obtain ⟨gk, hgk⟩ : ∃ x, x = G.getD k 0 := ⟨_, rfl⟩
    obtain ⟨fk, hfk⟩ : ∃ x, x = vk / 4096 := ⟨_, rfl⟩
    obtain ⟨lo, hlo⟩ : ∃ x, x = fk / 1024 := ⟨_, rfl⟩
    obtain ⟨hi, hhi⟩ : ∃ x, x = (fk + gk - 1) / 1024 := ⟨_, rfl⟩
    have hgv : gi V (toN z) = vk := by rw [gi_eq, toN_eq, hk, hvk]
    have hgg : gi G (toN z) = gk := by rw [gi_eq, toN_eq, hk, hgk]
    have hvu : 0 ≤ vk ∧ vk < 4294967296 := hvk ▸ h1 k
    conv => cbv
    refine Br.mk (fun hd => ?_) (fun hd => ?_)
    · have hd : z < (m : Int) := by have h : z < ofN m := ltI_t.1 hd; rw [ofN_eq] at h; exact h
      have hgd := of_decide_eq_true (hg k (by omega))
      rw [← hvk, ← hgk] at hgd
      have hffk : convI .i64 (quoI .u32 vk 4096) = fk := by
        rw [quoI_eq, Int.tdiv_eq_ediv_of_nonneg hvu.1, wrap_u32, convI_eq, IntWalk.i64_in _ (by omega), hfk]; omega
      have hllo : quoI .i64 fk 1024 = lo := by rw [quoI_eq, Int.tdiv_eq_ediv_of_nonneg (by omega), IntWalk.i64_in _ (by omega), hlo]
      have hhhi : quoI .i64 (subI .i64 (addI .i64 fk gk) 1) 1024 = hi := by
        rw [addI_eq, IntWalk.i64_in _ (by omega), subI_eq, IntWalk.i64_in _ (by omega), quoI_eq, Int.tdiv_eq_ediv_of_nonneg (by omega), IntWalk.i64_in _ (by omega), hhi]
      conv => cbv
      refine ⟨inR.mk hz0 hd, nLt.mk (by simp only [leafs]; omega), ?_⟩
      refine byInv I13ok 6 ⟨[], 0⟩ (fun a : Int × List Int × Int × (Nat → Bool) => ⟨[(8, .i .i64 (.ex a.1)), (7, .i .i64 (.ex fk)), (6, .i .i64 (.ex z)), (5, .i .i64 (.ex a.2.2.1)), (4, .slc 2 0 1 (.lit 0) (.lit 1024) (.lit 1024)), (0, .slc 0 0 4 (.lit 0) (.ex m) (.ex cap))], [.ro [.rows 4 (.ex m) (rngF V PH G P)], .abs F, .cells 4 [.rows 1 (.lit 1024) (usedF a.2.2.2)]]⟩)
        (fun a => (hi + 1 - a.1).toNat) (fun a => lo ≤ a.1 ∧ a.1 ≤ hi + 1 ∧ a.2.1 = ((List.range (a.1 - lo).toNat).map fun (j : Nat) => lo + j).foldl insU acc ∧ a.2.2.1 = 1 + (a.2.1.length : Int) ∧ UsedIs a.2.2.2 a.2.1) false (lo, acc, cn, us) (by kernel_rfl) ⟨by omega, by omega, by simp, hcn, hus⟩ (LeSt.mk' (List.range 3) (by decide) (by rfl) (by decide) ?_ ?_) ?_
      · conv => cbv
        refine ⟨?_, ?_, trivial⟩
        · show lo = quoI .i64 (convI .i64 (quoI .u32 (gi V (toN z)) 4096)) 1024; rw [hgv, hffk, hllo]
        · show fk = convI .i64 (quoI .u32 (gi V (toN z)) 4096); rw [hgv, hffk]
      · conv => cbv
        exact ⟨⟨fun j _ => rngF_le _ _, trivial⟩, ⟨fun j _ => usedF_le _ _ _, trivial⟩, trivial⟩
      rintro ⟨x, acc2, c2, u2⟩ ⟨hx0, hx1, hacc2, hc2, hu2⟩
      simp only at hx0 hx1 hacc2 hc2 hu2
      obtain ⟨u3, hu3⟩ : ∃ u : Nat → Bool, u = fun j => if j = x.toNat then true else u2 j := ⟨_, rfl⟩
      obtain ⟨x1, hx1'⟩ : ∃ y, y = x + 1 := ⟨_, rfl⟩
      obtain ⟨c3, hc3⟩ : ∃ y, y = c2 + 1 := ⟨_, rfl⟩
      obtain ⟨acc3, hacc3⟩ : ∃ y, y = insU acc2 x := ⟨_, rfl⟩
      conv => cbv
      refine ⟨inR.mk hz0 hd, nLt.mk (by simp only [leafs]; omega), Br.mk (fun he => ?_) (fun he => ?_)⟩
      · have he : leI x (quoI .i64 (subI .i64 (addI .i64 fk (gi G (toN z))) 1) 1024) = true := he
        rw [hgg, hhhi, leI_t] at he
        have hxb : 0 ≤ x ∧ x < 1024 := by omega
        have hab : acc.Nodup ∧ ∀ y ∈ acc, 0 ≤ y ∧ y < (1024 : Nat) := by
          rw [hacc, hk]
          refine insU_bd (n := 1024) _ [] ⟨by simp, by simp⟩ (fun y hy => ?_)
          simp only [allFsts, List.mem_flatMap, List.mem_range] at hy
          obtain ⟨a, ha, hy⟩ := hy
          exact fsts_bd hL0 (hg a (by omega)) y hy
        have hal : acc2.length ≤ 1024 := by
          have := insU_bd (n := 1024) ((List.range (x - lo).toNat).map fun (j : Nat) => lo + (j : Int)) acc hab (fun y hy => by
            simp only [List.mem_map, List.mem_range] at hy
            obtain ⟨j, hj, rfl⟩ := hy
            omega)
          rw [hacc2]
          exact nodup_lt 1024 _ this.1 this.2
        conv => cbv
        refine ⟨inR.mk hxb.1 (by omega), nLt.mk (by simp only [leafs]; omega), Br.mk (fun hu => ?_) (fun hu => ?_)⟩
        · have hu : notB (u2 (toN x)) = true := hu
          have hxt : ((toN x : Nat) : Int) = x := by rw [toN_eq]; omega
          rw [notB_eq, hu2, hxt, Bool.not_eq_true', decide_eq_false_iff_not] at hu
          have hins : acc3 = acc2 ++ [x] := by rw [hacc3, insU, if_neg hu]
          have hu4 : UsedIs u3 acc3 := fun j => by
            rw [hu3, hins]
            simp only [List.mem_append, List.mem_singleton]
            by_cases e : j = x.toNat
            · rw [if_pos e]; have : (j : Int) = x := by omega
              simp [this]
            · rw [if_neg e, hu2 j]; have : ¬ (j : Int) = x := by omega
              simp [this]
          conv => cbv
          refine ⟨inR.mk hxb.1 (by omega), nLt.mk (by simp only [leafs]; omega), ?_⟩
          refine ⟨(x1, acc3, c3, u3), ⟨⟨by show lo ≤ x1; omega, by show x1 ≤ hi + 1; omega, ?_, by show c3 = 1 + (acc3.length : Int); rw [hins, List.length_append, hc3, hc2]; simp; omega, hu4⟩, by show (hi + 1 - x1).toNat < (hi + 1 - x).toNat; omega⟩, _, (HImp.refl _).ext, LeSt.mk' (List.range 3) (by decide) (by rfl) (by decide) ?_ ?_⟩
          · show acc3 = ((List.range (x1 - lo).toNat).map fun (j : Nat) => lo + j).foldl insU acc
            have ex : (x1 - lo).toNat = (x - lo).toNat + 1 := by omega
            rw [ex, List.range_succ, List.map_append, List.foldl_append, ← hacc2, hacc3]
            have : lo + ((x - lo).toNat : Int) = x := by omega
            simp only [List.map_cons, List.map_nil, List.foldl_cons, List.foldl_nil]
            rw [this]
          · conv => cbv
            refine ⟨?_, ?_, trivial⟩
            · show x1 = addI .i64 x 1
              rw [addI_eq, IntWalk.i64_in _ (by omega), hx1']
            · show c3 = addI .i64 c2 1
              rw [addI_eq, IntWalk.i64_in _ (by omega), hc3]
          · conv => cbv
            refine ⟨⟨fun j _ => rngF_le _ _, trivial⟩, ⟨fun j _ => ?_, trivial⟩, trivial⟩
            show leL (upd (usedF u2) (toN x) [.b (.lit true)] j) (usedF u3 j)
            rw [upd_eq, toN_eq]
            show leL (if j = x.toNat then [.b (.lit true)] else usedF u2 j) (usedF u3 j)
            by_cases e : j = x.toNat
            · rw [if_pos e]
              refine ⟨?_, trivial⟩
              show u3 j = true
              rw [hu3]; simp only [if_pos e]
            · rw [if_neg e]
              refine ⟨?_, trivial⟩
              show u3 j = u2 j
              rw [hu3]; simp only [if_neg e]
        · have hu : notB (u2 (toN x)) = false := hu
          have hxt : ((toN x : Nat) : Int) = x := by rw [toN_eq]; omega
          rw [notB_eq, hu2, hxt, Bool.not_eq_false', decide_eq_true_eq] at hu
          have hins : acc3 = acc2 := by rw [hacc3, insU, if_pos hu]
          conv => cbv
          refine ⟨(x1, acc3, c2, u2), ⟨⟨by show lo ≤ x1; omega, by show x1 ≤ hi + 1; omega, ?_, by show c2 = 1 + (acc3.length : Int); rw [hins, hc2], by show UsedIs u2 acc3; rw [hins]; exact hu2⟩, by show (hi + 1 - x1).toNat < (hi + 1 - x).toNat; omega⟩, _, (HImp.refl _).ext, LeSt.mk' (List.range 3) (by decide) (by rfl) (by decide) ?_ ?_⟩
          · show acc3 = ((List.range (x1 - lo).toNat).map fun (j : Nat) => lo + j).foldl insU acc
            have ex : (x1 - lo).toNat = (x - lo).toNat + 1 := by omega
            rw [ex, List.range_succ, List.map_append, List.foldl_append, ← hacc2, hacc3]
            have : lo + ((x - lo).toNat : Int) = x := by omega
            simp only [List.map_cons, List.map_nil, List.foldl_cons, List.foldl_nil]
            rw [this]
          · conv => cbv
            refine ⟨?_, trivial⟩
            show x1 = addI .i64 x 1
            rw [addI_eq, IntWalk.i64_in _ (by omega), hx1']
          · conv => cbv
            exact ⟨⟨fun j _ => rngF_le _ _, trivial⟩, ⟨fun j _ => usedF_le _ _ _, trivial⟩, trivial⟩
      · have he : leI x (quoI .i64 (subI .i64 (addI .i64 fk (gi G (toN z))) 1) 1024) = false := he
        rw [hgg, hhhi, leI_f] at he
        have hx : x = hi + 1 := by omega
        have hend : acc2 = keysOf ⟨V, PH, G, P⟩ z1.toNat := by
          have ez : z1.toNat = k + 1 := by omega
          rw [ez, keysOf, allFsts, List.range_succ, List.flatMap_append, List.foldl_append]
          rw [hacc2, hacc, hk, keysOf, allFsts, hx]
          simp only [List.flatMap_cons, List.flatMap_nil, List.append_nil, fstsOf]
          rw [← hvk, ← hgk, ← hfk, ← hlo, ← hhi]
          have : (hi + 1 - lo).toNat = (hi - lo + 1).toNat := by omega
          rw [this]
        conv => cbv
        refine ⟨(z1, acc2, c2, u2), ⟨⟨by show 0 ≤ z1; omega, by show z1 ≤ (m : Int); omega, hend, hc2, hu2⟩, by show ((m : Int) - z1).toNat < ((m : Int) - z).toNat; omega⟩, _, (HImp.refl _).ext, LeSt.mk' (List.range 3) (by decide) (by rfl) (by decide) ?_ ?_⟩
        · conv => cbv
          refine ⟨?_, trivial⟩
          show z1 = addI .i64 z 1
          rw [addI_eq, IntWalk.i64_in _ (by omega), hz1']
        · conv => cbv
          exact ⟨⟨fun j _ => rngF_le _ _, trivial⟩, ⟨fun j _ => usedF_le _ _ _, trivial⟩, trivial⟩
    · have hd : (m : Int) ≤ z := by have h : ofN m ≤ z := ltI_f.1 hd; rw [ofN_eq] at h; exact h
      have hzm : z.toNat = m := by omega
      rw [hzm] at hacc
      conv => cbv
      refine (LeOut.mk' [0, 1] (by decide) (by rfl) (by decide) ?_ ?_).two
      · conv => cbv
        show r = cn
        rw [hr, hcn, hacc]
      · conv => cbv
        exact ⟨⟨fun j _ => rngF_le _ _, trivial⟩, trivial⟩
end Go.Proofs.Ytnefllaeleihcaa
end

/-
  The law's lent and kept.
-/
section
namespace Go.Proofs.Ytnefllaeleihcaa
open Go Go.Vex
set_option maxRecDepth 20000
set_option maxHeartbeats 4000000
/-- A column with eight marks behind it. -/
def extL (m : Nat) (x : Int) (V : List Int) : List Int := (List.range m).map (fun j => V.getD j 0) ++ List.replicate 8 x
theorem extL_lo {m : Nat} {x : Int} {V : List Int} {j : Nat} (h : j < m) : (extL m x V).getD j 0 = V.getD j 0 := by
  simp [extL, List.getD_eq_getElem?_getD, List.getElem?_append_left (show j < ((List.range m).map fun j => V[j]?.getD 0).length by simpa using h), h]
theorem extL_hi {m : Nat} {x : Int} {V : List Int} {j : Nat} (h : m ≤ j) (h8 : j < m + 8) : (extL m x V).getD j 0 = x := by
  rw [extL, List.getD_eq_getElem?_getD, List.getElem?_append_right (by simpa using h), List.getElem?_replicate, if_pos (by simp; omega)]; rfl
noncomputable def I10 : FnT := [(10, fi Try.f10 ⟨[], 0⟩)]
theorem I10ok : FnsOk kit I10 := ⟨fo10 _, trivial⟩
theorem lent_spec (V PH G P : List Int) (m c : Nat) (hm : m < 1000000) {V1 PH1 G1 P1 : List Int} (hV : V1 = extL m 0 V) (hPH : PH1 = extL m 0 PH) (hG : G1 = extL m (-77) G) (hP : P1 = extL m 0 P) {m8 : Nat} (hm8 : m8 = m + 8) :
    SpecM kit 10 [.slc 0 0 4 (.lit 0) (.ex m) (.ex c)] [.ro [.rows 4 (.ex m) (rngF V PH G P)]] fun q v hp1 new => q = false ∧ hp1 = [.ro [.rows 4 (.ex m) (rngF V PH G P)]] ∧ ∃ cap jc, m8 ≤ cap ∧ cap - m8 = jc ∧ v = .slc 2 0 4 (.lit 0) (.ex m8) (.ex cap) ∧ new = [.cells 31 [.rows 4 (.ex m8) (rngF V1 PH1 G1 P1), .junk 4 (.ex jc)]] := by
  refine SpecM.mk2 fun F => ?_
  refine into I10ok 6 ?_
  conv => cbv
  refine ⟨by show eqN m m; rw [eqN_eq], by show apOk m 24; rw [apOk_eq]; omega, AllN.mk fun cap0 hcap0 => ?_⟩
  obtain ⟨jc0, hjc0⟩ : ∃ x, cap0 - m = x := ⟨_, rfl⟩
  have hrow : ∀ j, j < m → leL (rngF V PH G P j) (rngF V1 PH1 G1 P1 j) := fun j hj => by
    refine ⟨⟨rfl, ?_⟩, ⟨rfl, ?_⟩, ⟨rfl, ?_⟩, ⟨rfl, ?_⟩, trivial⟩ <;> (show gi _ _ = gi _ _; rw [gi_eq, gi_eq])
    · rw [hV, extL_lo hj]
    · rw [hPH, extL_lo hj]
    · rw [hG, extL_lo hj]
    · rw [hP, extL_lo hj]
  have hmark : ∀ j, m ≤ j → j < m + 8 → leL [.i .u32 (.lit 0), .i .u32 (.lit 0), .i .i64 (.lit (-77)), .i .u8 (.lit 0)] (rngF V1 PH1 G1 P1 j) := fun j hj hj8 => by
    refine ⟨⟨rfl, ?_⟩, ⟨rfl, ?_⟩, ⟨rfl, ?_⟩, ⟨rfl, ?_⟩, trivial⟩ <;> (show gi _ _ = _; rw [gi_eq])
    · rw [hV, extL_hi hj hj8]; rfl
    · rw [hPH, extL_hi hj hj8]; rfl
    · rw [hG, extL_hi hj hj8]; rfl
    · rw [hP, extL_hi hj hj8]; rfl
  conv => cbv
  refine byInv I10ok 6 ⟨[], 0⟩ (fun a : Int × Nat × Nat × Nat => ⟨[(4, .i .i64 (.ex a.1)), (3, .slc 2 0 4 (.lit 0) (.ex a.2.1) (.ex a.2.2.1))], [.ro [.rows 4 (.ex m) (rngF V PH G P)], .abs F, .cells 31 [.rows 4 (.ex a.2.1) (rngF V1 PH1 G1 P1), .junk 4 (.ex a.2.2.2)]]⟩)
    (fun a => (8 - a.1).toNat) (fun a => 0 ≤ a.1 ∧ a.1 ≤ 8 ∧ a.2.1 = m + a.1.toNat ∧ a.2.1 ≤ a.2.2.1 ∧ a.2.2.1 - a.2.1 = a.2.2.2) false (0, m, cap0, jc0) (by kernel_rfl) ⟨by omega, by omega, rfl, hcap0, hjc0⟩ (LeSt.mk' [0, 1, 2] (by decide) (by rfl) (by decide) ?_ ?_) ?_
  · conv => cbv
    trivial
  · conv => cbv
    refine ⟨⟨fun j _ => rngF_le _ _, trivial⟩, ⟨fun j hj => hrow j hj, ?_, trivial⟩, trivial⟩
    show jc0 = subN cap0 m
    rw [subN_eq, hjc0]
  rintro ⟨z, n, cap, jc⟩ ⟨hz0, hz1, hn, hcap, hjc⟩
  simp only at hz0 hz1 hn hcap hjc
  obtain ⟨z1, hz1'⟩ : ∃ x, x = z + 1 := ⟨_, rfl⟩
  obtain ⟨n1, hn1⟩ : ∃ x, x = n + 1 := ⟨_, rfl⟩
  conv => cbv
  refine Br.mk (fun hc => ?_) (fun hc => ?_)
  · have hc : z < 8 := ltI_t.1 hc
    conv => cbv
    refine ⟨by show eqN n n; rw [eqN_eq], by show eqN (addN n jc) cap; rw [eqN_eq, addN_eq]; omega, by show apOk (addN n 1) 24; rw [apOk_eq, addN_eq]; omega, AllN.mk fun cap1 hcap1 => ?_⟩
    have hcap1 : n1 ≤ cap1 := by have h : addN n 1 ≤ cap1 := hcap1; rw [addN_eq] at h; omega
    obtain ⟨jc1, hjc1⟩ : ∃ x, cap1 - n1 = x := ⟨_, rfl⟩
    conv => cbv
    refine ⟨(z1, n1, cap1, jc1), ⟨⟨by show 0 ≤ z1; omega, by show z1 ≤ 8; omega, by show n1 = m + z1.toNat; omega, hcap1, hjc1⟩, by show (8 - z1).toNat < (8 - z).toNat; omega⟩, _, (HImp.refl _).ext, LeSt.mk' [0, 1, 4] (by decide) (by rfl) (by decide) ?_ ?_⟩
    · conv => cbv
      refine ⟨?_, ⟨?_, trivial⟩, trivial⟩
      · show z1 = addI .i64 z 1
        rw [addI_eq, IntWalk.i64_in _ (by omega), hz1']
      · show n1 = addN n 1
        rw [addN_eq, hn1]
    · conv => cbv
      refine ⟨⟨fun j _ => rngF_le _ _, trivial⟩, ⟨⟨?_, fun j hj => ?_⟩, ?_, trivial⟩, trivial⟩
      · show n1 = addN n 1
        rw [addN_eq, hn1]
      · have hj : j < addN n 1 := hj
        rw [addN_eq] at hj
        show leL (jn (rngF V1 PH1 G1 P1) (fun _ => [.i .u32 (.lit 0), .i .u32 (.lit 0), .i .i64 (.lit (-77)), .i .u8 (.lit 0)]) n j) (rngF V1 PH1 G1 P1 j)
        rw [jn_eq]
        show leL (if j < n then rngF V1 PH1 G1 P1 j else _) _
        by_cases hjn : j < n
        · rw [if_pos hjn]; exact rngF_le id j
        · rw [if_neg hjn]; exact hmark j (by omega) (by omega)
      · show jc1 = subN cap1 (addN n 1)
        rw [subN_eq, addN_eq, ← hjc1, hn1]
  · have hc : 8 ≤ z := ltI_f.1 hc
    have hn8 : n = m8 := by omega
    subst hn8
    conv => cbv
    refine ⟨_, _, _, _, ⟨rfl, rfl, cap, jc, hcap, hjc, rfl, rfl⟩, rfl, (LeOut.mk' [0, 1, 2] (by decide) (by rfl) (by decide) (by cbv) ?_).two⟩
    conv => cbv
    exact ⟨⟨fun j _ => rngF_le _ _, trivial⟩, ⟨fun j _ => rngF_le _ _, trivial⟩, trivial⟩
noncomputable def I30 : FnT := [(30, fi Try.f30 ⟨[], 0⟩)]
theorem I30ok : FnsOk kit I30 := ⟨fo30 _, trivial⟩
def sameR (A B C D A' B' C' D' : List Int) (m : Nat) : Prop := ∀ j, j < m → A.getD j 0 = A'.getD j 0 ∧ B.getD j 0 = B'.getD j 0 ∧ C.getD j 0 = C'.getD j 0 ∧ D.getD j 0 = D'.getD j 0
theorem sameRanges_spec (A B A' B' C D C' D' : List Int) (m k c1 c2 : Nat) (hm : m < 4611686018427307904) {b : Bool} (hb : b = true ↔ m = k ∧ sameR A B C D A' B' C' D' m) :
    Spec1 kit 30 [.slc 0 0 4 (.lit 0) (.ex m) (.ex c1), .slc 1 0 4 (.lit 0) (.ex k) (.ex c2)] [.ro [.rows 4 (.ex m) (rngF A B C D)], .ro [.rows 4 (.ex k) (rngF A' B' C' D')]] false (.b (.ex b)) [.ro [.rows 4 (.ex m) (rngF A B C D)], .ro [.rows 4 (.ex k) (rngF A' B' C' D')]] [] := by
  refine Spec1.mk2 rfl fun F => ?_
  refine into I30ok 6 ?_
  conv => cbv
  refine Br.mk (fun hc => ?_) (fun hc => ?_)
  · have hc : ofN m ≠ ofN k := neI_t.1 hc
    rw [ofN_eq, ofN_eq] at hc
    have hbf : b = false := by
      cases b with
      | false => rfl
      | true => have := (hb.1 rfl).1; omega
    conv => cbv
    refine (LeOut.mk' [0, 1, 2] (by decide) (by rfl) (by decide) ?_ ?_).two
    · conv => cbv
      exact hbf
    · conv => cbv
      exact ⟨⟨fun j _ => rngF_le _ _, trivial⟩, ⟨fun j _ => rngF_le _ _, trivial⟩, trivial⟩
  · have hc : ofN m = ofN k := neI_f.1 hc
    rw [ofN_eq, ofN_eq] at hc
    have hmk : m = k := by omega
    conv => cbv
    refine byInv I30ok 6 ⟨[], 0⟩ (fun z : Int => ⟨[(5, .i .i64 (.ex z)), (0, .slc 0 0 4 (.lit 0) (.ex m) (.ex c1)), (1, .slc 1 0 4 (.lit 0) (.ex k) (.ex c2))], [.ro [.rows 4 (.ex m) (rngF A B C D)], .ro [.rows 4 (.ex k) (rngF A' B' C' D')], .abs F]⟩)
      (fun z => (m - z).toNat) (fun z => 0 ≤ z ∧ z ≤ m ∧ sameR A B C D A' B' C' D' z.toNat) false 0 (by kernel_rfl) ⟨by omega, by omega, fun j hj => by simp at hj⟩ (LeSt.mk' [0, 1, 2] (by decide) (by rfl) (by decide) (by cbv) ?_) ?_
    · conv => cbv
      exact ⟨⟨fun j _ => rngF_le _ _, trivial⟩, ⟨fun j _ => rngF_le _ _, trivial⟩, trivial⟩
    rintro z ⟨hz0, hz1, hz2⟩
    obtain ⟨z1, hz1'⟩ : ∃ x, z + 1 = x := ⟨_, rfl⟩
    conv => cbv
    refine Br.mk (fun hd => ?_) (fun hd => ?_)
    · have hd : z < (m : Int) := by have h : z < ofN m := ltI_t.1 hd; rw [ofN_eq] at h; exact h
      conv => cbv
      refine ⟨inR.mk hz0 hd, nLt.mk (by simp only [leafs]; omega), inR.mk hz0 (by omega), nLt.mk (by simp only [leafs]; omega), Br.mk (fun he => ?_) (fun he => ?_)⟩
      · have he : notB (andB (eqI (gi A (toN z)) (gi A' (toN z))) (andB (eqI (gi B (toN z)) (gi B' (toN z))) (andB (eqI (gi C (toN z)) (gi C' (toN z))) (eqI (gi D (toN z)) (gi D' (toN z)))))) = true := he
        rw [notB_eq, andB_eq, andB_eq, andB_eq, gi_eq, gi_eq, gi_eq, gi_eq, gi_eq, gi_eq, gi_eq, gi_eq, toN_eq] at he
        have hbf : b = false := by
          cases b with
          | false => rfl
          | true =>
            have := (hb.1 rfl).2 z.toNat (by omega)
            rw [this.1, this.2.1, this.2.2.1, this.2.2.2, eqI_t.2 rfl, eqI_t.2 rfl, eqI_t.2 rfl, eqI_t.2 rfl] at he
            cases he
        conv => cbv
        refine (LeOut.mk' [0, 1, 2] (by decide) (by rfl) (by decide) ?_ ?_).two
        · conv => cbv
          exact hbf
        · conv => cbv
          exact ⟨⟨fun j _ => rngF_le _ _, trivial⟩, ⟨fun j _ => rngF_le _ _, trivial⟩, trivial⟩
      · have he : notB (andB (eqI (gi A (toN z)) (gi A' (toN z))) (andB (eqI (gi B (toN z)) (gi B' (toN z))) (andB (eqI (gi C (toN z)) (gi C' (toN z))) (eqI (gi D (toN z)) (gi D' (toN z)))))) = false := he
        rw [notB_eq, andB_eq, andB_eq, andB_eq, Bool.not_eq_false', Bool.and_eq_true, Bool.and_eq_true, Bool.and_eq_true, eqI_t, eqI_t, eqI_t, eqI_t, gi_eq, gi_eq, gi_eq, gi_eq, gi_eq, gi_eq, gi_eq, gi_eq, toN_eq] at he
        conv => cbv
        refine ⟨z1, ⟨⟨by omega, by show z1 ≤ (m : Int); omega, fun j hj => ?_⟩, by show ((m : Int) - z1).toNat < ((m : Int) - z).toNat; omega⟩, _, (HImp.refl _).ext, LeSt.mk' [0, 1, 2] (by decide) (by rfl) (by decide) ?_ ?_⟩
        · by_cases hjz : j < z.toNat
          · exact hz2 j hjz
          · have : j = z.toNat := by omega
            rw [this]; exact he
        · conv => cbv
          refine ⟨?_, trivial⟩
          show z1 = addI .i64 z 1
          rw [addI_eq, IntWalk.i64_in _ (by omega), hz1']
        · conv => cbv
          exact ⟨⟨fun j _ => rngF_le _ _, trivial⟩, ⟨fun j _ => rngF_le _ _, trivial⟩, trivial⟩
    · have hd : (m : Int) ≤ z := by have h : ofN m ≤ z := ltI_f.1 hd; rw [ofN_eq] at h; exact h
      have hbt : b = true := hb.2 ⟨hmk, by have : z.toNat = m := by omega
                                           rw [this] at hz2; exact hz2⟩
      conv => cbv
      refine (LeOut.mk' [0, 1, 2] (by decide) (by rfl) (by decide) ?_ ?_).two
      · conv => cbv
        exact hbt
      · conv => cbv
        exact ⟨⟨fun j _ => rngF_le _ _, trivial⟩, ⟨fun j _ => rngF_le _ _, trivial⟩, trivial⟩
theorem Pre.rows {w m m' : Nat} {f : Nat → List SV} {r : List SV} (h : m ≤ m') : Pre (.rows w (.ex m') f :: r) [.rows w (.ex m) f] := fun ρ cs hd => by
  obtain ⟨c1, c2, rfl, g1, g2⟩ := hd.of_cons
  obtain ⟨hm, hr⟩ := g1.of_rows
  simp only [S.val_ex] at hm hr
  have hmw : m * w ≤ m' * w := Nat.mul_le_mul_right w h
  refine ⟨c1.take (m * w), c1.drop (m * w) ++ c2, by rw [← List.append_assoc, List.take_append_drop], .cons (c1.take (m * w)) [] (by simp) (.rows (by simp; omega) fun j hj => ?_) (.nil rfl)⟩
  simp only [S.val_ex] at hj
  have hjw : j * w + w ≤ m * w := by
    have := Nat.mul_le_mul_right w (show j + 1 ≤ m from hj)
    rw [Nat.add_mul, Nat.one_mul] at this; exact this
  have : ((c1.take (m * w)).drop (j * w)).take w = (c1.drop (j * w)).take w := by
    rw [List.drop_take, List.take_take, Nat.min_eq_left (by omega)]
  rw [this]; exact hr j (by omega)
noncomputable def I12 : FnT := [(12, fi Try.f12 ⟨[], 0⟩)]
theorem I12ok : FnsOk kit I12 := ⟨fo12 _, trivial⟩
/-- All of a row is written over so. -/
structure OverTo (a : Nat) (A B C D : List Int) (n : Nat) : Prop where
  la : A.length = n
  lb : B.length = n
  lc : C.length = n
  ld : D.length = n
  lo : ∀ j, j < a → A.getD j 0 = 0 ∧ B.getD j 0 = 0 ∧ C.getD j 0 = -99 ∧ D.getD j 0 = 0
theorem extL_len (m : Nat) (x : Int) (V : List Int) : (extL m x V).length = m + 8 := by simp [extL]
theorem OverTo.set {a : Nat} {A B C D : List Int} {n : Nat} (h : OverTo a A B C D n) (ha : a < n) : OverTo (a + 1) (A.set a 0) (B.set a 0) (C.set a (-99)) (D.set a 0) n := by
  have key : ∀ (X : List Int) (x : Int) j, X.length = n → j < a + 1 → (j < a → X.getD j 0 = x) → (X.set a x).getD j 0 = x := fun X x j hl hj hx => by
    rw [List.getD_eq_getElem?_getD]
    by_cases e : a = j
    · subst e; rw [List.getElem?_set_self (by omega)]; rfl
    · rw [List.getElem?_set_ne e, ← List.getD_eq_getElem?_getD]; exact hx (by omega)
  exact ⟨by simp [h.la], by simp [h.lb], by simp [h.lc], by simp [h.ld], fun j hj => ⟨key A 0 j h.la hj fun h' => (h.lo j h').1, key B 0 j h.lb hj fun h' => (h.lo j h').2.1, key C (-99) j h.lc hj fun h' => (h.lo j h').2.2.1, key D 0 j h.ld hj fun h' => (h.lo j h').2.2.2⟩⟩
theorem upd_rng (A B C D : List Int) (n i a : Nat) (hi : i = a) (ha : a < n) (h : OverTo a A B C D n) (x y z t : Int) (τ : Nat → Nat) (j : Nat) (hj : j < n) : leL (upd (rngF A B C D) i [.i .u32 (.lit x), .i .u32 (.lit y), .i .i64 (.lit z), .i .u8 (.lit t)] j) (renL τ (rngF (A.set a x) (B.set a y) (C.set a z) (D.set a t) j)) := by
  subst hi
  rw [upd_eq]
  show leL (if j = i then _ else rngF A B C D j) _
  have h1 := h.la; have h2 := h.lb; have h3 := h.lc; have h4 := h.ld
  by_cases e : j = i
  · subst e
    rw [if_pos rfl]
    refine ⟨⟨rfl, ?_⟩, ⟨rfl, ?_⟩, ⟨rfl, ?_⟩, ⟨rfl, ?_⟩, trivial⟩ <;> (show gi _ _ = _; rw [gi_eq, List.getD_eq_getElem?_getD, List.getElem?_set_self (by omega)]; rfl)
  · rw [if_neg e]
    refine ⟨⟨rfl, ?_⟩, ⟨rfl, ?_⟩, ⟨rfl, ?_⟩, ⟨rfl, ?_⟩, trivial⟩ <;> (show gi _ _ = gi _ _; rw [gi_eq, gi_eq, List.getD_eq_getElem?_getD, List.getD_eq_getElem?_getD, List.getElem?_set_ne (Ne.symm e)])
theorem OverTo.all {A B C D : List Int} {n : Nat} (h : OverTo n A B C D n) (τ : Nat → Nat) (j : Nat) (hj : j < n) : leL (rngF A B C D j) (renL τ (rngF (List.replicate n 0) (List.replicate n 0) (List.replicate n (-99)) (List.replicate n 0) j)) := by
  obtain ⟨h1, h2, h3, h4⟩ := h.lo j hj
  refine ⟨⟨rfl, ?_⟩, ⟨rfl, ?_⟩, ⟨rfl, ?_⟩, ⟨rfl, ?_⟩, trivial⟩ <;> (show gi _ _ = gi _ _; rw [gi_eq, gi_eq, List.getD_eq_getElem?_getD (l := List.replicate _ _), List.getElem?_replicate, if_pos hj])
  · rw [h1]; rfl
  · rw [h2]; rfl
  · rw [h3]; rfl
  · rw [h4]; rfl
theorem kept_spec (V PH G P : List Int) (m c c2 cap : Nat) (hm : m < 1000000) {V1 PH1 G1 P1 : List Int} (hV : V1 = extL m 0 V) (hPH : PH1 = extL m 0 PH) (hG : G1 = extL m (-77) G) (hP : P1 = extL m 0 P) {m8 jc : Nat} (hm8 : m8 = m + 8) (hcap : m8 ≤ cap) {Z N : List Int} (hZ : Z = List.replicate m8 0) (hN : N = List.replicate m8 (-99)) :
    Spec1 kit 12 [.slc 0 0 4 (.lit 0) (.ex m8) (.ex cap), .slc 1 0 4 (.lit 0) (.ex m) (.ex c2)] [.cells 31 [.rows 4 (.ex m8) (rngF V1 PH1 G1 P1), .junk 4 (.ex jc)], .ro [.rows 4 (.ex m) (rngF V PH G P)]] false (.b (.lit true))
      [.cells 31 [.rows 4 (.ex m8) (rngF Z Z N Z), .junk 4 (.ex jc)], .ro [.rows 4 (.ex m) (rngF V PH G P)]] [] := by
  refine Spec1.mk2 rfl fun F => ?_
  have hsame : sameR V1 PH1 G1 P1 V PH G P m := fun j hj => ⟨by rw [hV, extL_lo hj], by rw [hPH, extL_lo hj], by rw [hG, extL_lo hj], by rw [hP, extL_lo hj]⟩
  refine into I12ok 6 ?_
  conv => cbv
  have hsub : subI .i64 (ofN m8) 8 = m := by rw [ofN_eq, subI_eq, IntWalk.i64_in _ (by omega)]; omega
  refine ⟨by show nLe m8 cap; rw [nLe_eq]; exact hcap, by show leR (subI .i64 (ofN m8) 8) cap; rw [leR_eq, hsub]; omega, ?_⟩
  refine OkCall.by_spec (Spec1.lend (sameRanges_spec V1 PH1 V PH G1 P1 G P m m cap c2 (by omega) (b := true) ⟨fun _ => ⟨rfl, hsame⟩, fun _ => rfl⟩) 0 31 [.rows 4 (.ex m8) (rngF V1 PH1 G1 P1), .junk 4 (.ex jc)] rfl rfl (Pre.rows (by omega))
    (fun j k hj hk => by
      match j, hj with
      | 1, _ => cases hk; exact .inr ⟨_, rfl, rfl⟩
      | (n + 2), _ => simp at hk) (fun k hk => by simp at hk)) [0, 1] (by decide) ?_ ?_ ?_
  · conv => cbv
    refine ⟨⟨?_, trivial⟩, trivial⟩
    show m = toN (subI .i64 (ofN m8) 8)
    rw [hsub, toN_eq]; omega
  · conv => cbv
    exact ⟨⟨fun j _ => rngF_le _ _, trivial⟩, ⟨fun j _ => rngF_le _ _, trivial⟩, trivial⟩
  conv => cbv
  refine byInv I12ok 6 ⟨[], 0⟩ (fun z : Int => ⟨[(6, .i .i64 (.ex z)), (5, .b (.ex true)), (0, .slc 0 0 4 (.lit 0) (.ex m8) (.ex cap)), (1, .slc 1 0 4 (.lit 0) (.ex m) (.ex c2))], [.cells 31 [.rows 4 (.ex m8) (rngF V1 PH1 G1 P1), .junk 4 (.ex jc)], .ro [.rows 4 (.ex m) (rngF V PH G P)], .abs F]⟩)
    (fun z => (9 - z).toNat) (fun z => 1 ≤ z ∧ z ≤ 9) false 1 (by kernel_rfl) ⟨by omega, by omega⟩ (LeSt.mk' [0, 1, 2] (by decide) (by rfl) (by decide) (by cbv) ?_) ?_
  · conv => cbv
    exact ⟨⟨fun j _ => rngF_le _ _, trivial⟩, ⟨fun j _ => rngF_le _ _, trivial⟩, trivial⟩
  rintro z ⟨hz0, hz1⟩
  obtain ⟨z1, hz1'⟩ : ∃ x, x = z + 1 := ⟨_, rfl⟩
  conv => cbv
  refine Br.mk (fun hc => ?_) (fun hc => ?_)
  · have hc : z ≤ 8 := leI_t.1 hc
    conv => cbv
    refine Br.yes rfl ?_
    have hix : subI .i64 (ofN m8) z = m8 - z := by rw [ofN_eq, subI_eq, IntWalk.i64_in _ (by omega)]
    obtain ⟨jj, hjj⟩ : ∃ x : Nat, x = ((m8 : Int) - z).toNat := ⟨_, rfl⟩
    have htn : toN (subI .i64 (ofN m8) z) = jj := by rw [hix, toN_eq, hjj]
    have hj1 : m ≤ jj := by omega
    have hj2 : jj < m + 8 := by omega
    conv => cbv
    refine ⟨by show inR (subI .i64 (ofN m8) z) m8; rw [hix]; exact inR.mk (by omega) (by omega), by show nLt (toN (subI .i64 (ofN m8) z)) m8; rw [htn, nLt_eq]; omega, z1, ⟨⟨by show 1 ≤ z1; omega, by show z1 ≤ 9; omega⟩, by show (9 - z1).toNat < (9 - z).toNat; omega⟩, _, (HImp.refl _).ext, LeSt.mk' [0, 1, 2] (by decide) (by rfl) (by decide) ?_ ?_⟩
    · conv => cbv
      refine ⟨?_, ?_, trivial⟩
      · show z1 = addI .i64 z 1
        rw [addI_eq, IntWalk.i64_in _ (by omega), hz1']
      · show true = andB (eqI (gi V1 (toN (subI .i64 (ofN m8) z))) 0) (andB (eqI (gi PH1 (toN (subI .i64 (ofN m8) z))) 0) (andB (eqI (gi G1 (toN (subI .i64 (ofN m8) z))) (-77)) (eqI (gi P1 (toN (subI .i64 (ofN m8) z))) 0)))
        rw [htn, gi_eq, gi_eq, gi_eq, gi_eq, hV, hPH, hG, hP, extL_hi hj1 hj2, extL_hi hj1 hj2, extL_hi hj1 hj2, extL_hi hj1 hj2, eqI_t.2 rfl, eqI_t.2 rfl, andB_eq, andB_eq, andB_eq]; rfl
    · conv => cbv
      exact ⟨⟨fun j _ => rngF_le _ _, trivial⟩, ⟨fun j _ => rngF_le _ _, trivial⟩, trivial⟩
  · have hc : 8 < z := leI_f.1 hc
    conv => cbv
    refine byInv I12ok 6 ⟨[], 0⟩ (fun a : Int × List Int × List Int × List Int × List Int => ⟨[(7, .i .i64 (.ex a.1)), (5, .b (.ex true)), (0, .slc 0 0 4 (.lit 0) (.ex m8) (.ex cap)), (1, .slc 1 0 4 (.lit 0) (.ex m) (.ex c2))], [.cells 31 [.rows 4 (.ex m8) (rngF a.2.1 a.2.2.1 a.2.2.2.1 a.2.2.2.2), .junk 4 (.ex jc)], .ro [.rows 4 (.ex m) (rngF V PH G P)], .abs F]⟩)
      (fun a => (m8 - a.1).toNat) (fun a => 0 ≤ a.1 ∧ a.1 ≤ m8 ∧ OverTo a.1.toNat a.2.1 a.2.2.1 a.2.2.2.1 a.2.2.2.2 m8) false (0, V1, PH1, G1, P1) (by kernel_rfl) ⟨by omega, by omega, by rw [hV, extL_len, hm8], by rw [hPH, extL_len, hm8], by rw [hG, extL_len, hm8], by rw [hP, extL_len, hm8], fun j hj => by simp at hj⟩ (LeSt.mk' [0, 1, 2] (by decide) (by rfl) (by decide) (by cbv) ?_) ?_
    · conv => cbv
      exact ⟨⟨fun j _ => rngF_le _ _, trivial⟩, ⟨fun j _ => rngF_le _ _, trivial⟩, trivial⟩
    rintro ⟨y, A, B, C, D⟩ ⟨hy0, hy1, hov⟩
    simp only at hy0 hy1 hov
    obtain ⟨y1, hy1'⟩ : ∃ x, x = y + 1 := ⟨_, rfl⟩
    obtain ⟨A1, hA1⟩ : ∃ x, x = A.set y.toNat 0 := ⟨_, rfl⟩
    obtain ⟨B1, hB1⟩ : ∃ x, x = B.set y.toNat 0 := ⟨_, rfl⟩
    obtain ⟨C1, hC1⟩ : ∃ x, x = C.set y.toNat (-99) := ⟨_, rfl⟩
    obtain ⟨D1, hD1⟩ : ∃ x, x = D.set y.toNat 0 := ⟨_, rfl⟩
    conv => cbv
    refine Br.mk (fun hd => ?_) (fun hd => ?_)
    · have hd : y < (m8 : Int) := by have h : y < ofN m8 := ltI_t.1 hd; rw [ofN_eq] at h; exact h
      have hov1 : OverTo y1.toNat A1 B1 C1 D1 m8 := by
        rw [hA1, hB1, hC1, hD1, show y1.toNat = y.toNat + 1 by omega]; exact hov.set (by omega)
      conv => cbv
      refine ⟨inR.mk (by omega) hd, nLt.mk (by simp only [leafs]; omega), (y1, A1, B1, C1, D1), ⟨⟨by show 0 ≤ y1; omega, by show y1 ≤ (m8 : Int); omega, hov1⟩, by show ((m8 : Int) - y1).toNat < ((m8 : Int) - y).toNat; omega⟩, _, (HImp.refl _).ext, LeSt.mk' [0, 1, 2] (by decide) (by rfl) (by decide) ?_ ?_⟩
      · conv => cbv
        refine ⟨?_, trivial⟩
        show y1 = addI .i64 y 1
        rw [addI_eq, IntWalk.i64_in _ (by omega), hy1']
      · conv => cbv
        refine ⟨⟨fun j hj => ?_, trivial⟩, ⟨fun j _ => rngF_le _ _, trivial⟩, trivial⟩
        show leL (upd (rngF A B C D) (toN y) [.i .u32 (.lit 0), .i .u32 (.lit 0), .i .i64 (.lit (-99)), .i .u8 (.lit 0)] j) (renL _ (rngF A1 B1 C1 D1 j))
        rw [hA1, hB1, hC1, hD1]
        exact upd_rng A B C D m8 (toN y) y.toNat (toN_eq y) (by omega) hov _ _ _ _ _ j hj
    · have hd : (m8 : Int) ≤ y := by have h : ofN m8 ≤ y := ltI_f.1 hd; rw [ofN_eq] at h; exact h
      rw [show y.toNat = m8 by omega] at hov
      conv => cbv
      refine (LeOut.mk' [0, 1, 2] (by decide) (by rfl) (by decide) (by cbv) ?_).two
      conv => cbv
      exact ⟨⟨fun j hj => by rw [hZ, hN]; exact hov.all _ j hj, trivial⟩, ⟨fun j _ => rngF_le _ _, trivial⟩, trivial⟩
end Go.Proofs.Ytnefllaeleihcaa
end

/-
  From a walk of a law to its row's contract.
-/
section
namespace Go.Vex
open Go.RowKit Go.ChangeShapes
noncomputable section
theorem calls_of_ok2 {C : Kit} {f : Nat} {svs : List SV} {hp : List Blk} {ρ : Rho} {W : World} {vals : List Value}
    (h : ∀ A, OkCall C f svs (hp ++ [.abs A]) fun q v hp' => leV v (.b (.lit true)) ∧ ∃ x : Nat, hp'[x]? = some (.abs A))
    (hd : DenT ρ svs vals) (hs : InitSat ρ hp W) : Calls C.P f vals.toArray W fun e w' => e = .returned (.bool true) ∧ Below W.heap.size W w' := by
  have hs' : InitSat (ρ ++ [none]) (hp ++ [.abs (allA W)]) W := hs.push (see := List.range W.heap.size) (fun w' hw => ⟨rfl, hw⟩) (by simp)
  obtain ⟨ω, hω, _⟩ := hs'
  refine ((h (allA W)).out (ρ ++ [none]) W vals (hd.mono (Ext.push _ _)) ⟨ω, hω⟩).mono ?_
  rintro e w' ⟨q, ρ', v, c, hp', rfl, k1, k2, ⟨ω', k3⟩, k4, k5, hv, x, hx⟩
  cases leV.den k2 hv with
  | b hb =>
    subst hb
    refine ⟨rfl, k4.os, k4.tape, k4.output, k4.size, ?_⟩
    obtain ⟨a, o, _, _, hA⟩ := HSat.getO k3 hx
    have := hA w' (agree.refl _ _)
    intro k hk
    exact this.2 k (.inr (by simpa using hk))
theorem BImp.roPre {l l0 : List SV} (h : Pre l l0) : BImp (.ro l) (.ro l0) := by
  refine ⟨fun ρ a o w ⟨cs, hd, hc⟩ => ?_⟩
  obtain ⟨c1, c2, rfl, h1⟩ := h ρ cs hd
  refine ⟨c1, h1, ?_⟩
  rcases hc with ⟨e, ho⟩ | ⟨b, o0, e, ho, hc⟩
  · exact .inl ⟨(List.append_eq_nil_iff.1 e).1, ho⟩
  · refine .inr ⟨b, o0, e, ho, ?_⟩
    rcases hc with e2 | ⟨arr, T, fz, h2, h3⟩
    · exact .inl (List.append_eq_nil_iff.1 e2).1
    · exact .inr ⟨arr, T, fz, h2, fun j c hj => h3 j c (by rw [List.getElem?_append_left (List.getElem?_eq_some_iff.1 hj).1]; exact hj)⟩
theorem inK_u32 {n : Int} (h : InK .u32 n) : 0 ≤ n ∧ n < 4294967296 := by
  simp [InK, Lit.wf, IntKind.min, IntKind.max, IntKind.bits, IntKind.signed] at h
  exact ⟨h.1, by omega⟩
theorem inK_u8 {n : Int} (h : InK .u8 n) : 0 ≤ n ∧ n < 256 := by
  simp [InK, Lit.wf, IntKind.min, IntKind.max, IntKind.bits, IntKind.signed] at h
  exact ⟨h.1, by omega⟩
theorem inK_i64 {n : Int} (h : InK .i64 n) : -9223372036854775808 ≤ n ∧ n < 9223372036854775808 := by
  simp [InK, Lit.wf, IntKind.min, IntKind.max, IntKind.bits, IntKind.signed] at h
  exact ⟨h.1, by omega⟩
theorem col_in {P : Int → Prop} (h0 : P 0) {zs : List Int} (h : ∀ z ∈ zs, P z) (j : Nat) : P (zs.getD j 0) := by
  rw [List.getD_eq_getElem?_getD]
  cases e : zs[j]? with
  | none => exact h0
  | some z => exact h z (List.mem_of_getElem? e)
end
end Go.Vex
namespace Go.Proofs.Ytnefllaeleihcaa
open Go Go.Vex
def lawK2 (f : Nat) (svs : List SV) (hp : List Blk) : Prop :=
  ∀ A, OkCall kit f svs (hp ++ [.abs A]) fun q v hp' => leV v (.b (.lit true)) ∧ ∃ x : Nat, hp'[x]? = some (.abs A)
end Go.Proofs.Ytnefllaeleihcaa
end

/-
  The law's pick and few.
-/
section
namespace Go.Proofs.Ytnefllaeleihcaa
open Go Go.Vex
set_option maxRecDepth 20000
set_option maxHeartbeats 4000000
theorem Spec1.args {C : Kit} {f : Nat} {args args' : List SV} {hp0 hp1 new : List Blk} {q1 : Bool} {v1 : SV} (hl : leL args args') (h : Spec1 C f args' hp0 q1 v1 hp1 new) : Spec1 C f args hp0 q1 v1 hp1 new := ⟨h.len, fun F => OkCall.args hl (h.out F)⟩
def pickP (c n : Int) : Int := (if c < 0 then -(c + 1) else c) % n
theorem pickP_bd {c n : Int} (hn : 0 < n) : 0 ≤ pickP c n ∧ pickP c n < n := ⟨Int.emod_nonneg _ (by omega), Int.emod_lt_of_pos _ hn⟩
noncomputable def I22 : FnT := [(22, fi Try.f22 ⟨[], 0⟩)]
theorem I22ok : FnsOk kit I22 := ⟨fo22 _, trivial⟩
theorem pick_spec (c n : Int) (hc : -9223372036854775808 ≤ c ∧ c < 9223372036854775808) (hn : 0 < n ∧ n < 9223372036854775808) {r : Int} (hr : r = pickP c n) : Spec1 kit 22 [.i .i64 (.ex c), .i .i64 (.ex n)] [] true (.i .i64 (.ex r)) [] [] := by
  refine Spec1.mk2 rfl fun F => ?_
  refine into I22ok 6 ?_
  conv => cbv
  refine Br.mk (fun h => ?_) (fun h => ?_)
  · have h : c < 0 := ltI_t.1 h
    conv => cbv
    refine ⟨neZ.mk (by omega), (LeOut.mk' [0] (by decide) rfl (by decide) ?_ (by cbv)).two⟩
    conv => cbv
    show r = remI (subI .i64 0 (addI .i64 c 1)) n
    rw [remI_eq, subI_eq, addI_eq, IntWalk.i64_in (c + 1) (by omega), IntWalk.i64_in _ (by omega), hr, pickP, if_pos h, Int.zero_sub, Int.tmod_eq_emod_of_nonneg (by omega)]
  · have h : 0 ≤ c := ltI_f.1 h
    conv => cbv
    refine ⟨neZ.mk (by omega), (LeOut.mk' [0] (by decide) rfl (by decide) ?_ (by cbv)).two⟩
    conv => cbv
    show r = remI c n
    rw [remI_eq, hr, pickP, if_neg (by omega), Int.tmod_eq_emod_of_nonneg h]
def fV0 (L : Rgs) (j : Nat) : Int := j * 67108864 + L.V.getD j 0 % 33554432 / 4096 * 4096
def fH0 (L : Rgs) (j : Nat) : Int := L.PH.getD j 0 % 409600 / 4096 * 4096
def fG (L : Rgs) (j : Nat) : Int := 1 + pickP (L.G.getD j 0) 12
def fPm (L : Rgs) (j : Nat) : Int := [1, 3, 4, 5, 7].getD (pickP (L.P.getD j 0) 5).toNat 0
/-- The third range lies right behind the second. -/
def fB (L : Rgs) (j : Nat) : Prop := j = 2 ∧ pickP (L.G.getD 2 0) 2 = 0
instance (L : Rgs) (j : Nat) : Decidable (fB L j) := inferInstanceAs (Decidable (_ ∧ _))
def fV (L : Rgs) (j : Nat) : Int := if fB L j then fV0 L 1 + 4096 * fG L 1 else fV0 L j
def fH (L : Rgs) (j : Nat) : Int := if fB L j then fH0 L 1 + 4096 * fG L 1 else fH0 L j
def fewN (m : Nat) : Nat := min m 4
noncomputable def O16 : Opt := ⟨[1000002, 1000006, 2006005, 2006014], 0⟩
theorem fo16 : FnOk kit 16 (fi Try.f16 O16) := foO O16 (by kernel_rfl) (by kernel_rfl) (by kernel_rfl) (by kernel_rfl)
noncomputable def I16 : FnT := [(16, fi Try.f16 O16)]
theorem I16ok : FnsOk kit I16 := ⟨fo16, trivial⟩
noncomputable def c16 : Code := (codeAt 2 (Try.f16.body.getD .skip)).getD .skip
theorem getD_col {n j : Nat} {f : Nat → Int} (h : j < n) : ((List.range n).map f).getD j 0 = f j := by
  rw [List.getD_eq_getElem?_getD, List.getElem?_map, List.getElem?_range h]; rfl
theorem few_spec (L : Rgs) (m c n : Nat) (hL : RgsOk L m) (hm : m < 4611686018427387904) {V PH G P A B C D : List Int} (hLe : L = ⟨V, PH, G, P⟩) (hn : n = fewN m) (hA : A = (List.range n).map (fV L)) (hB : B = (List.range n).map (fH L)) (hC : C = (List.range n).map (fG L)) (hD : D = (List.range n).map (fPm L)) :
    SpecM kit 16 [.slc 0 0 4 (.lit 0) (.ex m) (.ex c)] [.ro [.rows 4 (.ex m) (rngF V PH G P)]] fun q v hp1 new => q = false ∧ hp1 = [.ro [.rows 4 (.ex m) (rngF V PH G P)]] ∧ ∃ cap jc, n ≤ cap ∧ cap - n = jc ∧ v = .slc 2 0 4 (.lit 0) (.ex n) (.ex cap) ∧ new = [.cells 31 [.rows 4 (.ex n) (rngF A B C D), .junk 4 (.ex jc)]] := by
  refine SpecM.mk2 fun F => ?_
  refine into I16ok 6 ?_
  conv => cbv
  refine Ok.nilSlot 3 0 4 (.cells 31 [.rows 4 (.ex 0) (rngF A B C D), .junk 4 (.ex 0)]) (by decide) rfl ?_ ?_
  · exact nil_rows 31 4 _
  refine kcode I16ok 6 ⟨[1000006, 2006005, 2006014], 0⟩ (by kernel_rfl) ?_
  conv => cbv
  refine byInv I16ok 6 ⟨[1000006, 2006005, 2006014], 0⟩ (fun a : Int × Nat × Nat × Nat => ⟨[(4, .i .i64 (.ex a.1)), (3, .slc 2 0 4 (.lit 0) (.ex a.2.1) (.ex a.2.2.1)), (0, .slc 0 0 4 (.lit 0) (.ex m) (.ex c))], [.ro [.rows 4 (.ex m) (rngF V PH G P)], .abs F, .cells 31 [.rows 4 (.ex a.2.1) (rngF A B C D), .junk 4 (.ex a.2.2.2)]]⟩)
    (fun a => (n - a.1).toNat) (fun a => 0 ≤ a.1 ∧ a.1 ≤ n ∧ a.2.1 = a.1.toNat ∧ a.2.1 ≤ a.2.2.1 ∧ a.2.2.1 - a.2.1 = a.2.2.2) false (0, 0, 0, 0) (by kernel_rfl) ⟨by omega, by omega, rfl, by decide, rfl⟩ (LeSt.mk' [0, 1, 2] (by decide) (by rfl) (by decide) (by cbv) ?_) ?_
  · conv => cbv
    exact ⟨⟨fun j _ => rngF_le _ _, trivial⟩, ⟨fun j _ => rngF_le _ _, trivial⟩, trivial⟩
  rintro ⟨z, k, cap, jc⟩ ⟨hz0, hz1, hk, hcap, hjc⟩
  simp only at hz0 hz1 hk hcap hjc
  obtain ⟨z1, hz1'⟩ : ∃ x, x = z + 1 := ⟨_, rfl⟩
  obtain ⟨k1, hk1⟩ : ∃ x, x = k + 1 := ⟨_, rfl⟩
  obtain ⟨rG, hrG⟩ : ∃ x, x = pickP (G.getD z.toNat 0) 12 := ⟨_, rfl⟩
  obtain ⟨rP, hrP⟩ : ∃ x, x = pickP (P.getD z.toNat 0) 5 := ⟨_, rfl⟩
  obtain ⟨r2, hr2⟩ : ∃ x, x = pickP (G.getD z.toNat 0) 2 := ⟨_, rfl⟩
  have hGz := hL.g z.toNat
  have hPz := hL.p z.toNat
  have hVz := hL.v z.toNat
  have hHz := hL.ph z.toNat
  rw [hLe] at hGz hPz hVz hHz
  simp only at hGz hPz hVz hHz
  have hGb := pickP_bd (c := G.getD z.toNat 0) (n := 12) (by decide)
  have hPb := pickP_bd (c := P.getD z.toNat 0) (n := 5) (by decide)
  rw [← hrG] at hGb
  rw [← hrP] at hPb
  have hnm : n = min m 4 := hn
  have eA : ∀ j, j < n → gi A j = fV L j := fun j h => by rw [gi_eq, hA, getD_col h]
  have eB : ∀ j, j < n → gi B j = fH L j := fun j h => by rw [gi_eq, hB, getD_col h]
  have eC : ∀ j, j < n → gi C j = fG L j := fun j h => by rw [gi_eq, hC, getD_col h]
  have eV0 : z < 4 → fV0 L z.toNat = addI .u32 (shlI .u32 (convI .u32 z) 26) (mulI .u32 (quoI .u32 (remI (gi V (toN z)) 33554432) 4096) 4096) := fun h4 => by
    rw [fV0, hLe, gi_eq, toN_eq, remI_eq, quoI_eq, mulI_eq, convI_eq, shlI_eq, addI_eq]
    simp only [wrap_u32]
    rw [Int.tmod_eq_emod_of_nonneg hVz.1, Int.tdiv_eq_ediv_of_nonneg (by omega)]
    rw [show (2 : Int) ^ min (Int.toNat 26) IntKind.u32.bits = 67108864 by decide]
    omega
  have eH0 : fH0 L z.toNat = mulI .u32 (quoI .u32 (remI (gi PH (toN z)) 409600) 4096) 4096 := by
    rw [fH0, hLe, gi_eq, toN_eq, remI_eq, quoI_eq, mulI_eq]
    simp only [wrap_u32]
    rw [Int.tmod_eq_emod_of_nonneg hHz.1, Int.tdiv_eq_ediv_of_nonneg (by omega)]
    omega
  have eG : fG L z.toNat = addI .i64 1 rG := by
    rw [fG, hLe, addI_eq, IntWalk.i64_in _ (by omega)]
    simp only
    rw [← hrG]
  have eP : fPm L z.toNat = [1, 3, 4, 5, 7].getD rP.toNat 0 := by
    rw [fPm, hLe]
    simp only
    rw [← hrP]
  have eV1 : 2 < n → fV0 L 1 + 4096 * fG L 1 = addI .u32 (gi A 1) (convI .u32 (mulI .i64 4096 (gi C 1))) := fun h => by
    rw [eA 1 (by omega), eC 1 (by omega), fV, if_neg (fun h => by have := h.1; omega), mulI_eq, convI_eq, addI_eq, fG, fV0]
    have h1 := hL.v 1
    have h2 := pickP_bd (c := L.G.getD 1 0) (n := 12) (by decide)
    rw [IntWalk.i64_in _ (by omega), wrap_u32, wrap_u32]
    omega
  have eH1 : 2 < n → fH0 L 1 + 4096 * fG L 1 = addI .u32 (gi B 1) (convI .u32 (mulI .i64 4096 (gi C 1))) := fun h => by
    rw [eB 1 (by omega), eC 1 (by omega), fH, if_neg (fun h => by have := h.1; omega), mulI_eq, convI_eq, addI_eq, fG, fH0]
    have h1 := hL.ph 1
    have h2 := pickP_bd (c := L.G.getD 1 0) (n := 12) (by decide)
    rw [IntWalk.i64_in _ (by omega), wrap_u32, wrap_u32]
    omega
  conv => cbv
  refine Br.mk (fun hc => ?_) (fun hc => ?_)
  · have hc : z < (m : Int) := by have h : z < ofN m := ltI_t.1 hc; rw [ofN_eq] at h; exact h
    conv => cbv
    refine Br.mk (fun hd => ?_) (fun hd => ?_)
    · have hd : z < 4 := ltI_t.1 hd
      conv => cbv
      refine Ok.imp (HImp.toInts (k := .u8) 3 5 [.lit 1, .lit 3, .lit 4, .lit 5, .lit 7] rfl rfl) ?_
      refine kcode I16ok 6 ⟨[2006005, 2006014], 0⟩ (by kernel_rfl) ?_
      conv => cbv
      refine ⟨inR.mk hz0 hc, nLt.mk (by simp only [leafs]; omega), PCall.of_spec (Spec1.args ?_ (pick_spec (G.getD z.toNat 0) 12 (by omega) (by omega) hrG)) rfl rfl ?_⟩
      · refine ⟨⟨rfl, ?_⟩, ⟨rfl, ?_⟩, trivial⟩
        · show G.getD z.toNat 0 = gi G (toN z)
          rw [gi_eq, toN_eq]
        · rfl
      conv => cbv
      refine ⟨inR.mk hz0 hc, nLt.mk (by simp only [leafs]; omega), PCall.of_spec (Spec1.args ?_ (pick_spec (P.getD z.toNat 0) 5 (by omega) (by omega) hrP)) rfl rfl ?_⟩
      · refine ⟨⟨rfl, ?_⟩, ⟨rfl, ?_⟩, trivial⟩
        · show P.getD z.toNat 0 = convI .i64 (gi P (toN z))
          rw [gi_eq, toN_eq, convI_eq, IntWalk.i64_in _ (by omega)]
        · rfl
      conv => cbv
      refine ⟨inR.mk hPb.1 hPb.2, nLt.mk (by simp only [leafs]; omega), inR.mk hz0 hc, nLt.mk (by simp only [leafs]; omega), inR.mk hz0 hc, nLt.mk (by simp only [leafs]; omega), Br.mk (fun he => ?_) (fun he => ?_)⟩
      · have he : z = 2 := eqI_t.1 he
        conv => cbv
        refine ⟨inR.mk hz0 hc, nLt.mk (by simp only [leafs]; omega), OkCall.args (args' := [.i .i64 (.ex (G.getD z.toNat 0)), .i .i64 (.ex 2)]) ?_ (OkCall.by_spec (pick_spec (G.getD z.toNat 0) 2 (by omega) (by omega) hr2) [] (by decide) (by cbv) (by cbv) ?_)⟩
        · refine ⟨⟨rfl, ?_⟩, ⟨rfl, ?_⟩, trivial⟩
          · show G.getD z.toNat 0 = gi G (toN z)
            rw [gi_eq, toN_eq]
          · rfl
        conv => cbv
        refine Br.mk (fun hf => ?_) (fun hf => ?_)
        · have hf : r2 = 0 := eqI_t.1 hf
          conv => cbv
          have hk2 : k = 2 := by omega
          have hin : inR 1 k := inR.mk (by decide) (by omega)
          refine ⟨hin, ?_, hin, ?_, hin, ?_, hin, ?_, ?_⟩
          · subst hk2; exact nLt.mk (by decide)
          · subst hk2; exact nLt.mk (by decide)
          · subst hk2; exact nLt.mk (by decide)
          · subst hk2; exact nLt.mk (by decide)
          have hfb : fB L z.toNat := ⟨by omega, by rw [hLe]; simp only; rw [show (2 : Nat) = z.toNat by omega, ← hr2]; exact hf⟩
          refine ⟨by show eqN k k; rw [eqN_eq], by show eqN (addN k jc) cap; rw [eqN_eq, addN_eq]; omega, by show apOk (addN k 1) 24; rw [apOk_eq, addN_eq]; omega, AllN.mk fun cap1 hcap1 => ?_⟩
          have hcap1 : k1 ≤ cap1 := by have h : addN k 1 ≤ cap1 := hcap1; rw [addN_eq] at h; omega
          obtain ⟨jc1, hjc1⟩ : ∃ x, cap1 - k1 = x := ⟨_, rfl⟩
          conv => cbv
          refine ⟨(z1, k1, cap1, jc1), ⟨⟨by show 0 ≤ z1; omega, by show z1 ≤ n; omega, by show k1 = z1.toNat; omega, hcap1, hjc1⟩, by show ((n:Int) - z1).toNat < ((n:Int) - z).toNat; omega⟩, _, (HImp.refl _).ext, LeSt.mk' [0, 1, 7] (by decide) (by rfl) (by decide) ?_ ?_⟩
          · conv => cbv
            refine ⟨?_, ⟨?_, trivial⟩, trivial⟩
            · show z1 = addI .i64 z 1
              rw [addI_eq, IntWalk.i64_in _ (by omega), hz1']
            · show k1 = addN k 1
              rw [addN_eq, hk1]
          · conv => cbv
            refine ⟨⟨fun j _ => rngF_le _ _, trivial⟩, ⟨⟨?_, fun j hj => ?_⟩, ?_, trivial⟩, trivial⟩
            · show k1 = addN k 1
              rw [addN_eq, hk1]
            · have hj : j < addN k 1 := hj
              rw [addN_eq] at hj
              show leL (jn (rngF A B C D) (fun _ => [.i .u32 (.ex (addI .u32 (gi A 1) (convI .u32 (mulI .i64 4096 (gi C 1))))), .i .u32 (.ex (addI .u32 (gi B 1) (convI .u32 (mulI .i64 4096 (gi C 1))))), .i .i64 (.ex (addI .i64 1 rG)), .i .u8 (.ex (gi [1, 3, 4, 5, 7] (toN rP)))]) k j) (rngF A B C D j)
              rw [jn_eq]
              show leL (if j < k then rngF A B C D j else _) _
              by_cases hjn : j < k
              · rw [if_pos hjn]; exact rngF_le id j
              · rw [if_neg hjn]
                have hjk : j = z.toNat := by omega
                refine ⟨⟨rfl, ?_⟩, ⟨rfl, ?_⟩, ⟨rfl, ?_⟩, ⟨rfl, ?_⟩, trivial⟩
                · show gi A j = addI .u32 (gi A 1) (convI .u32 (mulI .i64 4096 (gi C 1)))
                  rw [gi_eq A j, hjk, show A.getD z.toNat 0 = fV L z.toNat by rw [hA, getD_col (by omega)], fV, if_pos hfb, eV1 (by omega)]
                · show gi B j = addI .u32 (gi B 1) (convI .u32 (mulI .i64 4096 (gi C 1)))
                  rw [gi_eq B j, hjk, show B.getD z.toNat 0 = fH L z.toNat by rw [hB, getD_col (by omega)], fH, if_pos hfb, eH1 (by omega)]
                · show gi C j = addI .i64 1 rG
                  rw [gi_eq, hC, hjk, getD_col (by omega), eG]
                · show gi D j = gi [1, 3, 4, 5, 7] (toN rP)
                  rw [gi_eq, gi_eq, toN_eq, hD, hjk, getD_col (by omega), eP]
            · show jc1 = subN cap1 (addN k 1)
              rw [subN_eq, addN_eq, ← hjc1, hk1]
        · have hf : r2 ≠ 0 := eqI_f.1 hf
          conv => cbv
          have hfb : ¬ fB L z.toNat := fun h => by
            apply hf; have h2 := h.2; rw [hLe] at h2; simp only at h2; rw [show (2 : Nat) = z.toNat by omega, ← hr2] at h2; exact h2
          refine ⟨by show eqN k k; rw [eqN_eq], by show eqN (addN k jc) cap; rw [eqN_eq, addN_eq]; omega, by show apOk (addN k 1) 24; rw [apOk_eq, addN_eq]; omega, AllN.mk fun cap1 hcap1 => ?_⟩
          have hcap1 : k1 ≤ cap1 := by have h : addN k 1 ≤ cap1 := hcap1; rw [addN_eq] at h; omega
          obtain ⟨jc1, hjc1⟩ : ∃ x, cap1 - k1 = x := ⟨_, rfl⟩
          conv => cbv
          refine ⟨(z1, k1, cap1, jc1), ⟨⟨by show 0 ≤ z1; omega, by show z1 ≤ n; omega, by show k1 = z1.toNat; omega, hcap1, hjc1⟩, by show ((n:Int) - z1).toNat < ((n:Int) - z).toNat; omega⟩, _, (HImp.refl _).ext, LeSt.mk' [0, 1, 7] (by decide) (by rfl) (by decide) ?_ ?_⟩
          · conv => cbv
            refine ⟨?_, ⟨?_, trivial⟩, trivial⟩
            · show z1 = addI .i64 z 1
              rw [addI_eq, IntWalk.i64_in _ (by omega), hz1']
            · show k1 = addN k 1
              rw [addN_eq, hk1]
          · conv => cbv
            refine ⟨⟨fun j _ => rngF_le _ _, trivial⟩, ⟨⟨?_, fun j hj => ?_⟩, ?_, trivial⟩, trivial⟩
            · show k1 = addN k 1
              rw [addN_eq, hk1]
            · have hj : j < addN k 1 := hj
              rw [addN_eq] at hj
              show leL (jn (rngF A B C D) (fun _ => [.i .u32 (.ex (addI .u32 (shlI .u32 (convI .u32 z) 26) (mulI .u32 (quoI .u32 (remI (gi V (toN z)) 33554432) 4096) 4096))), .i .u32 (.ex (mulI .u32 (quoI .u32 (remI (gi PH (toN z)) 409600) 4096) 4096)), .i .i64 (.ex (addI .i64 1 rG)), .i .u8 (.ex (gi [1, 3, 4, 5, 7] (toN rP)))]) k j) (rngF A B C D j)
              rw [jn_eq]
              show leL (if j < k then rngF A B C D j else _) _
              by_cases hjn : j < k
              · rw [if_pos hjn]; exact rngF_le id j
              · rw [if_neg hjn]
                have hjk : j = z.toNat := by omega
                refine ⟨⟨rfl, ?_⟩, ⟨rfl, ?_⟩, ⟨rfl, ?_⟩, ⟨rfl, ?_⟩, trivial⟩
                · show gi A j = addI .u32 (shlI .u32 (convI .u32 z) 26) (mulI .u32 (quoI .u32 (remI (gi V (toN z)) 33554432) 4096) 4096)
                  rw [gi_eq A j, hjk, show A.getD z.toNat 0 = fV L z.toNat by rw [hA, getD_col (by omega)], fV, if_neg hfb, eV0 hd]
                · show gi B j = mulI .u32 (quoI .u32 (remI (gi PH (toN z)) 409600) 4096) 4096
                  rw [gi_eq B j, hjk, show B.getD z.toNat 0 = fH L z.toNat by rw [hB, getD_col (by omega)], fH, if_neg hfb, eH0]
                · show gi C j = addI .i64 1 rG
                  rw [gi_eq, hC, hjk, getD_col (by omega), eG]
                · show gi D j = gi [1, 3, 4, 5, 7] (toN rP)
                  rw [gi_eq, gi_eq, toN_eq, hD, hjk, getD_col (by omega), eP]
            · show jc1 = subN cap1 (addN k 1)
              rw [subN_eq, addN_eq, ← hjc1, hk1]
      · have he : z ≠ 2 := eqI_f.1 he
        conv => cbv
        have hfb : ¬ fB L z.toNat := fun h => by have := h.1; omega
        refine ⟨by show eqN k k; rw [eqN_eq], by show eqN (addN k jc) cap; rw [eqN_eq, addN_eq]; omega, by show apOk (addN k 1) 24; rw [apOk_eq, addN_eq]; omega, AllN.mk fun cap1 hcap1 => ?_⟩
        have hcap1 : k1 ≤ cap1 := by have h : addN k 1 ≤ cap1 := hcap1; rw [addN_eq] at h; omega
        obtain ⟨jc1, hjc1⟩ : ∃ x, cap1 - k1 = x := ⟨_, rfl⟩
        conv => cbv
        refine ⟨(z1, k1, cap1, jc1), ⟨⟨by show 0 ≤ z1; omega, by show z1 ≤ n; omega, by show k1 = z1.toNat; omega, hcap1, hjc1⟩, by show ((n:Int) - z1).toNat < ((n:Int) - z).toNat; omega⟩, _, (HImp.refl _).ext, LeSt.mk' [0, 1, 6] (by decide) (by rfl) (by decide) ?_ ?_⟩
        · conv => cbv
          refine ⟨?_, ⟨?_, trivial⟩, trivial⟩
          · show z1 = addI .i64 z 1
            rw [addI_eq, IntWalk.i64_in _ (by omega), hz1']
          · show k1 = addN k 1
            rw [addN_eq, hk1]
        · conv => cbv
          refine ⟨⟨fun j _ => rngF_le _ _, trivial⟩, ⟨⟨?_, fun j hj => ?_⟩, ?_, trivial⟩, trivial⟩
          · show k1 = addN k 1
            rw [addN_eq, hk1]
          · have hj : j < addN k 1 := hj
            rw [addN_eq] at hj
            show leL (jn (rngF A B C D) (fun _ => [.i .u32 (.ex (addI .u32 (shlI .u32 (convI .u32 z) 26) (mulI .u32 (quoI .u32 (remI (gi V (toN z)) 33554432) 4096) 4096))), .i .u32 (.ex (mulI .u32 (quoI .u32 (remI (gi PH (toN z)) 409600) 4096) 4096)), .i .i64 (.ex (addI .i64 1 rG)), .i .u8 (.ex (gi [1, 3, 4, 5, 7] (toN rP)))]) k j) (rngF A B C D j)
            rw [jn_eq]
            show leL (if j < k then rngF A B C D j else _) _
            by_cases hjn : j < k
            · rw [if_pos hjn]; exact rngF_le id j
            · rw [if_neg hjn]
              have hjk : j = z.toNat := by omega
              refine ⟨⟨rfl, ?_⟩, ⟨rfl, ?_⟩, ⟨rfl, ?_⟩, ⟨rfl, ?_⟩, trivial⟩
              · show gi A j = addI .u32 (shlI .u32 (convI .u32 z) 26) (mulI .u32 (quoI .u32 (remI (gi V (toN z)) 33554432) 4096) 4096)
                rw [gi_eq A j, hjk, show A.getD z.toNat 0 = fV L z.toNat by rw [hA, getD_col (by omega)], fV, if_neg hfb, eV0 hd]
              · show gi B j = mulI .u32 (quoI .u32 (remI (gi PH (toN z)) 409600) 4096) 4096
                rw [gi_eq B j, hjk, show B.getD z.toNat 0 = fH L z.toNat by rw [hB, getD_col (by omega)], fH, if_neg hfb, eH0]
              · show gi C j = addI .i64 1 rG
                rw [gi_eq, hC, hjk, getD_col (by omega), eG]
              · show gi D j = gi [1, 3, 4, 5, 7] (toN rP)
                rw [gi_eq, gi_eq, toN_eq, hD, hjk, getD_col (by omega), eP]
          · show jc1 = subN cap1 (addN k 1)
            rw [subN_eq, addN_eq, ← hjc1, hk1]
    · have hd : 4 ≤ z := ltI_f.1 hd
      have hkn : k = n := by omega
      subst hkn
      conv => cbv
      refine ⟨_, _, _, _, ⟨rfl, rfl, cap, jc, hcap, hjc, rfl, rfl⟩, rfl, (LeOut.mk' [0, 1, 2] (by decide) (by rfl) (by decide) (by cbv) ?_).two⟩
      conv => cbv
      exact ⟨⟨fun j _ => rngF_le _ _, trivial⟩, ⟨fun j _ => rngF_le _ _, trivial⟩, trivial⟩
  · have hc : (m : Int) ≤ z := by have h : ofN m ≤ z := ltI_f.1 hc; rw [ofN_eq] at h; exact h
    have hkn : k = n := by omega
    subst hkn
    conv => cbv
    refine ⟨_, _, _, _, ⟨rfl, rfl, cap, jc, hcap, hjc, rfl, rfl⟩, rfl, (LeOut.mk' [0, 1, 2] (by decide) (by rfl) (by decide) (by cbv) ?_).two⟩
    conv => cbv
    exact ⟨⟨fun j _ => rngF_le _ _, trivial⟩, ⟨fun j _ => rngF_le _ _, trivial⟩, trivial⟩
end Go.Proofs.Ytnefllaeleihcaa
end

/-
  Plain: what Need counts; pages that lie apart; TablesSeen's ranges.
-/
section
namespace Go.Proofs.Ytnefllaeleihcaa
open Go Go.Vex
set_option maxHeartbeats 4000000
theorem nd_le : ∀ (l k : List Int), l.Nodup → (∀ x ∈ l, x ∈ k) → l.length ≤ k.length
  | [], k, _, _ => by simp
  | a :: r, k, hd, h => by
    rw [List.nodup_cons] at hd
    have ha := h a (by simp)
    have := nd_le r (k.erase a) hd.2 (fun x hx => by
      rw [List.mem_erase_of_ne (fun e : x = a => hd.1 (e ▸ hx))]; exact h x (List.mem_cons_of_mem _ hx))
    rw [List.length_erase_of_mem ha] at this
    have := List.length_pos_of_mem ha
    simp only [List.length_cons]; omega
theorem nd_eq {l k : List Int} (hl : l.Nodup) (hk : k.Nodup) (h : ∀ x, x ∈ l ↔ x ∈ k) : l.length = k.length :=
  Nat.le_antisymm (nd_le l k hl fun x hx => (h x).1 hx) (nd_le k l hk fun x hx => (h x).2 hx)
theorem insU_mem {x : Int} : ∀ (l acc : List Int), x ∈ l.foldl insU acc ↔ x ∈ acc ∨ x ∈ l
  | [], acc => by simp
  | a :: r, acc => by
    rw [List.foldl_cons, insU_mem r, insU]
    split
    · rename_i h
      rw [List.mem_cons]
      constructor
      · rintro (h1 | h1); exact .inl h1; exact .inr (.inr h1)
      · rintro (h1 | rfl | h1); exact .inl h1; exact .inl h; exact .inr h1
    · rw [List.mem_append, List.mem_singleton, List.mem_cons, or_assoc]
theorem insU_nd : ∀ (l acc : List Int), acc.Nodup → (l.foldl insU acc).Nodup
  | [], acc, h => h
  | a :: r, acc, h => by
    rw [List.foldl_cons]
    refine insU_nd r _ ?_
    unfold insU
    split
    · exact h
    · rename_i hm
      rw [List.nodup_append]
      refine ⟨h, by simp, fun x hx y hy => ?_⟩
      simp only [List.mem_singleton] at hy
      subst hy; rintro rfl; exact hm hx
theorem mem_allPgs {L : Rgs} {m : Nat} {x : Int × Int} : x ∈ allPgs L m ↔ ∃ i j : Nat, i < m ∧ (j : Int) < L.G.getD i 0 ∧ x = pgOf L i j := by
  simp only [allPgs, pgsOf, List.mem_flatMap, List.mem_range, List.mem_map]
  constructor
  · rintro ⟨i, hi, j, hj, rfl⟩; exact ⟨i, j, hi, by omega, rfl⟩
  · rintro ⟨i, j, hi, hj, rfl⟩; exact ⟨i, hi, j, by omega, rfl⟩
theorem mem_allE {L : Rgs} {m : Nat} {x : PgE} : x ∈ allE L m ↔ ∃ i j : Nat, i < m ∧ (j : Int) < L.G.getD i 0 ∧ x = pgE L i j := by
  simp only [allE, rgE, List.mem_flatMap, List.mem_range, List.mem_map]
  constructor
  · rintro ⟨i, hi, j, hj, rfl⟩; exact ⟨i, j, hi, by omega, rfl⟩
  · rintro ⟨i, j, hi, hj, rfl⟩; exact ⟨i, hi, j, by omega, rfl⟩
/-- The tables that Need counts are those of the pages. -/
theorem keys_mem {L : Rgs} {m : Nat} (hv : ∀ i, i < m → 0 ≤ L.V.getD i 0 ∧ 1 ≤ L.G.getD i 0) {x : Int} : x ∈ keysOf L m ↔ ∃ p ∈ allPgs L m, p.1 = x := by
  rw [keysOf, insU_mem]
  simp only [List.not_mem_nil, false_or, allFsts, List.mem_flatMap, List.mem_range, fstsOf, List.mem_map]
  constructor
  · rintro ⟨i, hi, k, hk, rfl⟩
    have := hv i hi
    refine ⟨pgOf L i (max 0 (1024 * (L.V.getD i 0 / 4096 / 1024 + k) - L.V.getD i 0 / 4096)).toNat, mem_allPgs.2 ⟨i, _, hi, by omega, rfl⟩, ?_⟩
    simp only [pgOf]; omega
  · rintro ⟨p, hp, rfl⟩
    obtain ⟨i, j, hi, hj, rfl⟩ := mem_allPgs.1 hp
    have := hv i hi
    refine ⟨i, hi, ((L.V.getD i 0 / 4096 + j) / 1024 - L.V.getD i 0 / 4096 / 1024).toNat, by omega, ?_⟩
    simp only [pgOf]; omega
theorem need_len {L : Rgs} {m : Nat} (hgood : (List.range m).any (badR L) = false) (hv : ∀ i, i < m → 0 ≤ L.V.getD i 0 ∧ 1 ≤ L.G.getD i 0) {ws : List Int} (hd : ws.Nodup) (hw : ∀ i, i ∈ ws ↔ ∃ x ∈ allPgs L m, x.1 = i) : needP L m = 1 + (ws.length : Int) := by
  rw [needP, hgood, if_neg (by decide)]
  rw [nd_eq hd (k := keysOf L m) (insU_nd _ _ (by simp)) fun x => by rw [hw, keys_mem hv]]
/-- Ranges that lie apart have pages that do. -/
theorem pgs_nodup {L : Rgs} {m : Nat} (h : ∀ i j, i < j → j < m → L.V.getD i 0 / 4096 + L.G.getD i 0 ≤ L.V.getD j 0 / 4096 ∨ L.V.getD j 0 / 4096 + L.G.getD j 0 ≤ L.V.getD i 0 / 4096) : (allPgs L m).Nodup := by
  unfold allPgs List.Nodup
  rw [List.pairwise_flatMap]
  refine ⟨fun i hi => ?_, ?_⟩
  · rw [pgsOf, List.pairwise_map]
    refine List.Pairwise.imp ?_ List.pairwise_lt_range
    intro a b hab e
    simp only [pgOf, Prod.mk.injEq] at e
    omega
  · refine List.Pairwise.imp_of_mem ?_ List.pairwise_lt_range
    intro a b ha hb hab x hx y hy e
    subst e
    have hb := List.mem_range.1 hb
    simp only [pgsOf, List.mem_map, List.mem_range] at hx hy
    obtain ⟨j, hj, rfl⟩ := hx
    obtain ⟨k, hk, e⟩ := hy
    simp only [pgOf, Prod.mk.injEq] at e
    have := h a b hab hb
    omega
/-- What was mapped is walked to, and nothing else. -/
theorem walk_mapped {n R : Int} {f : Int → Int} {tb : Int → Option Int} {M : Int → Int → Int} {L : Rgs} {m : Nat} (hn : n ≤ 4096) (h : SpInv n f R tb (setA M (allE L m))) (hd : (allPgs L m).Nodup) {i k : Nat} (hi : i < m) (hk : (k : Int) < L.G.getD i 0) (hv : 0 ≤ L.V.getD i 0 ∧ L.V.getD i 0 + 4096 * L.G.getD i 0 ≤ 4294967296) (hv4 : L.V.getD i 0 % 4096 = 0) (hp4 : L.PH.getD i 0 % 4096 = 0)
    (he : encE 1 (L.P.getD i 0) (L.PH.getD i 0 / 4096 + k) = 0) (hp : 0 ≤ L.PH.getD i 0 ∧ L.PH.getD i 0 / 4096 + k < n) {off : Int} (ho : 0 ≤ off ∧ off < 4096) (a : Int) :
    ∃ s1 s2 : Int × Int, walkP n f R (L.V.getD i 0 + 4096 * k + off) a = (if allowB (L.P.getD i 0) a = true then L.PH.getD i 0 + 4096 * k + off else 0, [s1, s2], if allowB (L.P.getD i 0) a = true then 0 else 5) := by
  obtain ⟨v, hvv⟩ : ∃ v, v = L.V.getD i 0 + 4096 * k + off := ⟨_, rfl⟩
  rw [← hvv]
  have hx : pgE L i k ∈ allE L m := mem_allE.2 ⟨i, k, hi, hk, rfl⟩
  have hM := setA_in (x := pgE L i k) (allE L m) M (by rw [allE_pgs]; exact hd) hx
  have e1 : (pgE L i k).1.1 = v / 4096 / 1024 := by simp only [pgE, pgOf]; omega
  have e2 : (pgE L i k).1.2 = v / 4096 % 1024 := by simp only [pgE, pgOf]; omega
  rw [e1, e2] at hM
  obtain ⟨s1, s2, hw⟩ := walk_page hn h (v := v) (a := a) (by omega) he (by omega) hM
  refine ⟨s1, s2, ?_⟩
  rw [hw, show (L.PH.getD i 0 / 4096 + k) * 4096 + v % 4096 = L.PH.getD i 0 + 4096 * k + off by omega]
theorem walk_beside {n R : Int} {f : Int → Int} {tb : Int → Option Int} {L : Rgs} {m : Nat} (hn : n ≤ 4096) (h : SpInv n f R tb (setA (fun _ _ => 0) (allE L m))) {v : Int} (hv : 0 ≤ v ∧ v < 4294967296) (hv4 : ∀ i, i < m → L.V.getD i 0 % 4096 = 0)
    (ho : ∀ i, i < m → ¬ (L.V.getD i 0 ≤ v ∧ v < L.V.getD i 0 + 4096 * L.G.getD i 0)) (a : Int) : ∃ l, walkP n f R v a = (0, l, 3) := by
  refine walk_free hn h hv ?_
  refine setA_out _ _ fun x hx e => ?_
  obtain ⟨i, j, hi, hj, rfl⟩ := mem_allE.1 hx
  simp only [pgE, pgOf, Prod.mk.injEq] at e
  have h4 := hv4 i hi
  refine ho i hi ?_
  omega
/-! ### The ranges of TablesSeen -/
theorem fG_bd (L : Rgs) (j : Nat) : 1 ≤ fG L j ∧ fG L j ≤ 12 := by
  have := pickP_bd (c := L.G.getD j 0) (n := 12) (by decide)
  unfold fG; omega
theorem fPm_ok (L : Rgs) (j : Nat) : permOk (fPm L j) = true := by
  have := pickP_bd (c := L.P.getD j 0) (n := 5) (by decide)
  have h : (pickP (L.P.getD j 0) 5).toNat < 5 := by omega
  unfold fPm
  match (pickP (L.P.getD j 0) 5).toNat, h with
  | 0, _ => decide
  | 1, _ => decide
  | 2, _ => decide
  | 3, _ => decide
  | 4, _ => decide
theorem fV_bd {L : Rgs} (j : Nat) : (j : Int) * 67108864 ≤ fV L j + (if fB L j then 67108864 else 0) ∧ fV L j ≤ j * 67108864 + 33554432 ∧ fV L j % 4096 = 0 ∧ 0 ≤ fV L j := by
  have h := fG_bd L 1
  unfold fV fV0
  by_cases hb : fB L j
  · rw [if_pos hb, if_pos hb]; have := hb.1; subst this; omega
  · rw [if_neg hb, if_neg hb]; omega
theorem fH_bd {L : Rgs} (j : Nat) : 0 ≤ fH L j ∧ fH L j ≤ 454656 ∧ fH L j % 4096 = 0 := by
  have h := fG_bd L 1
  unfold fH fH0
  by_cases hb : fB L j
  · rw [if_pos hb]; omega
  · rw [if_neg hb]; omega
theorem fV_apart {L : Rgs} {i j : Nat} (hij : i < j) : fV L i + 4096 * fG L i ≤ fV L j := by
  have g1 := fG_bd L 1
  have gi' := fG_bd L i
  by_cases hb : fB L j
  · have hj := hb.1
    subst hj
    unfold fV
    rw [if_pos hb]
    by_cases h1 : i = 1
    · subst h1; rw [if_neg (fun h => by have := h.1; omega)]; omega
    · have : i = 0 := by omega
      subst this
      rw [if_neg (fun h => by have := h.1; omega)]
      unfold fV0; omega
  · have h1 := fV_bd (L := L) i
    have h2 := fV_bd (L := L) j
    rw [if_neg hb] at h2
    omega
theorem seen_plain {L K : Rgs} {n : Nat} (hn : n ≤ 4) (hK : K = ⟨(List.range n).map (fV L), (List.range n).map (fH L), (List.range n).map (fG L), (List.range n).map (fPm L)⟩) :
    RgsOk K n ∧ (∀ i, i < n → (0 ≤ K.V.getD i 0 ∧ K.V.getD i 0 ≤ 268435456 ∧ K.V.getD i 0 % 4096 = 0) ∧ (0 ≤ K.PH.getD i 0 ∧ K.PH.getD i 0 ≤ 454656) ∧ (1 ≤ K.G.getD i 0 ∧ K.G.getD i 0 ≤ 12)) ∧ ∃ f', mapP 128 409600 20 1 409600 false (zeroF (fun _ => 0) 409600) K n = (0, f', needP K n) ∧
      (∀ (i k : Nat), i < n → (k : Int) < K.G.getD i 0 → ∀ off, 0 ≤ off ∧ off < 4096 → ∀ a, ∃ s1 s2 : Int × Int, walkP 128 f' 409600 (K.V.getD i 0 + 4096 * k + off) a = (if allowB (K.P.getD i 0) a = true then K.PH.getD i 0 + 4096 * k + off else 0, [s1, s2], if allowB (K.P.getD i 0) a = true then 0 else 5)) ∧
      (∀ v, 0 ≤ v ∧ v < 4294967296 → (∀ i, i < n → ¬ (K.V.getD i 0 ≤ v ∧ v < K.V.getD i 0 + 4096 * K.G.getD i 0)) → ∀ a, ∃ l, walkP 128 f' 409600 v a = (0, l, 3)) := by
  have hV : ∀ i, i < n → K.V.getD i 0 = fV L i := fun i hi => by rw [hK]; exact getD_col hi
  have hH : ∀ i, i < n → K.PH.getD i 0 = fH L i := fun i hi => by rw [hK]; exact getD_col hi
  have hG : ∀ i, i < n → K.G.getD i 0 = fG L i := fun i hi => by rw [hK]; exact getD_col hi
  have hP : ∀ i, i < n → K.P.getD i 0 = fPm L i := fun i hi => by rw [hK]; exact getD_col hi
  have hcol : ∀ (f : Nat → Int) (P : Int → Prop), P 0 → (∀ i, i < n → P (f i)) → ∀ j, P (((List.range n).map f).getD j 0) := fun f P h0 h j => by
    by_cases hj : j < n
    · rw [getD_col hj]; exact h j hj
    · rw [List.getD_eq_getElem?_getD, List.getElem?_eq_none (by simp; omega)]; exact h0
  have hKok : RgsOk K n := by
    rw [hK]
    refine ⟨hcol _ (fun z => 0 ≤ z ∧ z < 4294967296) (by decide) fun i hi => ?_, hcol _ (fun z => 0 ≤ z ∧ z < 4294967296) (by decide) fun i hi => ?_, hcol _ (fun z => -9223372036854775808 ≤ z ∧ z < 9223372036854775808) (by decide) fun i hi => ?_, hcol _ (fun z => 0 ≤ z ∧ z < 256) (by decide) fun i hi => ?_, by omega⟩
    · have := fV_bd (L := L) i; omega
    · have := fH_bd (L := L) i; omega
    · have := fG_bd L i; omega
    · have := permOk_bd (fPm_ok L i); omega
  have hgood : (List.range n).any (badR K) = false := by
    rw [Bool.eq_false_iff, ne_eq, List.any_eq_true]
    rintro ⟨i, hi, hb⟩
    have hi := List.mem_range.1 hi
    have h1 := fV_bd (L := L) i
    have h2 := fH_bd (L := L) i
    have h3 := fG_bd L i
    have h4 := fPm_ok L i
    simp only [badR, hV i hi, hH i hi, hG i hi, hP i hi, mayB, Bool.not_eq_true', decide_eq_false_iff_not] at hb
    refine hb ⟨encE1.2 ⟨h4, by omega⟩, by omega, by omega, by omega, ?_, by omega⟩
    split at h1 <;> omega
  have hd : (allPgs K n).Nodup := pgs_nodup fun i j hij hj => by
    have h1 := fV_apart (L := L) hij
    have h2 := fV_bd (L := L) i
    rw [hV i (by omega), hV j hj, hG i (by omega)]
    left; omega
  have hx : ∀ x ∈ allPgs K n, 0 ≤ x.1 ∧ x.1 < 1024 ∧ 0 ≤ x.2 ∧ x.2 < 1024 ∧ (0 : Int) = 0 := fun x hx => by
    obtain ⟨i, j, hi, hj, rfl⟩ := mem_allPgs.1 hx
    rw [hG i hi] at hj
    have h1 := fV_bd (L := L) i
    have h3 := fG_bd L i
    simp only [pgOf, hV i hi]
    have h5 := h1.2.1
    have h6 := h1.2.2.2
    clear h1
    exact ⟨by omega, by omega, by omega, by omega, trivial⟩
  have hE : ∀ x ∈ allE K n, encE 1 x.2.1 x.2.2 = 0 ∧ 0 ≤ x.2.2 := fun x hx => by
    obtain ⟨i, j, hi, hj, rfl⟩ := mem_allE.1 hx
    rw [hG i hi] at hj
    have h2 := fH_bd (L := L) i
    have h3 := fG_bd L i
    simp only [pgE, hH i hi, hP i hi]
    exact ⟨encE1.2 ⟨fPm_ok L i, by omega⟩, by omega⟩
  have hroom : ∀ ws : List Int, ws.Nodup → (∀ i, i ∈ ws ↔ (none : Option Int) = none ∧ ∃ x ∈ allPgs K n, x.1 = i) → (ws.length : Int) ≤ 20 - 1 ∧ (ws.length ≠ 0 → false = false) := fun ws hws hm => by
    refine ⟨?_, fun _ => rfl⟩
    have : ws.length ≤ ((List.range n).flatMap fun i => [fV L i / 4096 / 1024, fV L i / 4096 / 1024 + 1]).length := nd_le _ _ hws fun y hy => by
      obtain ⟨_, x, hx, rfl⟩ := (hm y).1 hy
      obtain ⟨i, j, hi, hj, rfl⟩ := mem_allPgs.1 hx
      rw [hG i hi] at hj
      have h1 := fV_bd (L := L) i
      have h3 := fG_bd L i
      rw [List.mem_flatMap]
      refine ⟨i, List.mem_range.2 hi, ?_⟩
      simp only [pgOf, hV i hi, List.mem_cons, List.not_mem_nil, or_false]
      omega
    rw [List.length_flatMap] at this
    simp only [List.length_cons, List.length_nil, List.map_const', List.length_range, List.sum_replicate_nat] at this
    omega
  have hp : Pg 128 409600 := ⟨by decide, by decide, by decide⟩
  have hz : ∀ i, 0 ≤ i → i < 1024 → w32f (zeroF (fun _ => 0) 409600) (409600 + 4 * i) = 0 := fun i h0 h1 => by
    rw [w32_zero (by omega) (by decide), if_pos (by omega)]
  obtain ⟨f', tb', ws, g1, g2, g3, g4, g5, g6, g7, g8⟩ := map_ok (SpInv.new hp hz) (n := 128) (base := 409600) (pages := 20) (taken := 1) (sealed := false) (L := K) (m := n) ⟨by decide, by decide, by decide, by decide, by decide⟩ (fun i t h => by cases h) (by decide) hgood hd hx hE hroom
  refine ⟨hKok, fun i hi => ?_, f', ?_, fun i k hi hk off ho a => ?_, fun v hv ho a => ?_⟩
  · rw [hV i hi, hH i hi, hG i hi]
    have h1 := fV_bd (L := L) i
    have h2 := fH_bd (L := L) i
    have h3 := fG_bd L i
    exact ⟨⟨h1.2.2.2, by omega, h1.2.2.1⟩, ⟨h2.1, h2.2.1⟩, h3⟩
  · rw [g1, need_len hgood (fun i hi => ?_) g3 (fun i => by rw [g4 i]; simp)]
    rw [hV i hi, hG i hi]
    exact ⟨(fV_bd i).2.2.2, (fG_bd L i).1⟩
  · have h1 := fV_bd (L := L) i
    have h2 := fH_bd (L := L) i
    have h3 := fG_bd L i
    refine walk_mapped (by decide) g2 hd hi hk ?_ ?_ ?_ ?_ ?_ ho a
    · rw [hV i hi, hG i hi]; split at h1 <;> omega
    · rw [hV i hi]; omega
    · rw [hH i hi]; omega
    · rw [hG i hi] at hk
      rw [hP i hi, hH i hi]; exact encE1.2 ⟨fPm_ok L i, by omega⟩
    · rw [hG i hi] at hk
      rw [hH i hi]; omega
  · exact walk_beside (by decide) g2 hv (fun i hi => by rw [hV i hi]; exact (fV_bd i).2.2.1) ho a
end Go.Proofs.Ytnefllaeleihcaa
end

/-
  Plain: what Ranges tells is what was mapped; mapped anew, it is told again.
-/
section
namespace Go.Proofs.Ytnefllaeleihcaa
open Go Go.Vex
set_option maxHeartbeats 4000000
/-- A page's entry that may be. -/
def OkE (e : PgE) : Prop := (0 ≤ e.1.1 ∧ e.1.1 < 1024) ∧ (0 ≤ e.1.2 ∧ e.1.2 < 1024) ∧ encE 1 e.2.1 e.2.2 = 0 ∧ 0 ≤ e.2.2
/-- The pages of a range. -/
def pgs4 (r : R4) : List PgE := (List.range r.g.toNat).map fun (j : Nat) => (((r.v / 4096 + j) / 1024, (r.v / 4096 + j) % 1024), (r.p, r.ph / 4096 + j))
theorem OkE.dec {e : PgE} (h : OkE e) : decP (wOf e).2 = e.2.1 ∧ decF (wOf e).2 = e.2.2 := wOf_dec h.2.2.1 h.2.2.2
theorem pgs4_one {e : PgE} (h : OkE e) : pgs4 (rOf (wOf e)) = [e] := by
  obtain ⟨h1, h2⟩ := h.dec
  have hb := h
  obtain ⟨⟨a0, a1⟩, ⟨b0, b1⟩, _, c0⟩ := hb
  show [((((wOf e).1 / 4096 + ((0 : Nat) : Int)) / 1024, ((wOf e).1 / 4096 + ((0 : Nat) : Int)) % 1024), (decP (wOf e).2, decF (wOf e).2 * 4096 / 4096 + ((0 : Nat) : Int)))] = [e]
  rw [h1, h2]
  have e1 : (wOf e).1 = (e.1.1 * 1024 + e.1.2) * 4096 := rfl
  rw [e1, show ((e.1.1 * 1024 + e.1.2) * 4096 / 4096 + ((0 : Nat) : Int)) / 1024 = e.1.1 by omega, show ((e.1.1 * 1024 + e.1.2) * 4096 / 4096 + ((0 : Nat) : Int)) % 1024 = e.1.2 by omega, show e.2.2 * 4096 / 4096 + ((0 : Nat) : Int) = e.2.2 by omega]
theorem pgs4_longer {q : R4} (hg : 0 ≤ q.g) : pgs4 (longer q) = pgs4 q ++ [(((q.v / 4096 + q.g) / 1024, (q.v / 4096 + q.g) % 1024), (q.p, q.ph / 4096 + q.g))] := by
  unfold pgs4 longer
  simp only
  rw [show (q.g + 1).toNat = q.g.toNat + 1 by omega, List.range_succ, List.map_append]
  simp only [List.map_cons, List.map_nil, show ((q.g.toNat : Nat) : Int) = q.g by omega]
theorem list_snoc {α : Type} {P : List α → Prop} (h0 : P []) (hs : ∀ l x, P l → P (l ++ [x])) : ∀ l, P l := by
  intro l
  have : ∀ k : List α, P k.reverse := by
    intro k
    induction k with
    | nil => exact h0
    | cons x k ih => rw [List.reverse_cons]; exact hs _ _ ih
  simpa using this l.reverse
theorem merge_mod {E : List PgE} (hE : ∀ e ∈ E, OkE e) : ∀ r ∈ mergeP (E.map wOf), r.v % 4096 = 0 ∧ r.ph % 4096 = 0 ∧ 1 ≤ r.g := by
  intro r hr
  obtain ⟨⟨x, hx, h1, h2, h3⟩, h4, _⟩ := mergeP_mem _ r hr
  obtain ⟨e, he, rfl⟩ := List.mem_map.1 hx
  refine ⟨?_, ?_, h4⟩
  · rw [h1]; show (e.1.1 * 1024 + e.1.2) * 4096 % 4096 = 0; omega
  · rw [h2]; omega
theorem merge_pgs : ∀ E : List PgE, (∀ e ∈ E, OkE e) → (mergeP (E.map wOf)).flatMap pgs4 = E := by
  refine list_snoc (fun _ => rfl) ?_
  intro E e ih hE
  have hE0 : ∀ x ∈ E, OkE x := fun x hx => hE x (List.mem_append_left _ hx)
  have he : OkE e := hE e (by simp)
  have ih := ih hE0
  have hmod := merge_mod hE0
  rw [List.map_append, List.map_cons, List.map_nil, mergeP_snoc]
  obtain ⟨out, hout⟩ : ∃ x, x = mergeP (E.map wOf) := ⟨_, rfl⟩
  rw [← hout] at ih hmod ⊢
  have hnew : (out ++ [rOf (wOf e)]).flatMap pgs4 = E ++ [e] := by
    rw [List.flatMap_append, ih, List.flatMap_cons, List.flatMap_nil, pgs4_one he]; rfl
  unfold mgStep
  split
  · exact hnew
  · rename_i q hq
    split
    · rename_i hf
      have hne : out ≠ [] := by rintro rfl; simp at hq
      have hq' := hq
      rw [List.getLast?_eq_some_getLast hne, Option.some.injEq] at hq
      have hl : out = out.dropLast ++ [q] := by rw [← hq, List.dropLast_concat_getLast hne]
      obtain ⟨m1, m2, m3⟩ := hmod q (List.mem_of_getLast? hq')
      rw [List.flatMap_append, List.flatMap_cons, List.flatMap_nil, pgs4_longer (by omega)]
      rw [hl, List.flatMap_append, List.flatMap_cons, List.flatMap_nil, List.append_nil] at ih
      rw [← ih, List.append_nil, List.append_assoc]
      congr 2
      simp only [folB, Bool.and_eq_true, decide_eq_true_eq] at hf
      obtain ⟨⟨f1, f2⟩, f3⟩ := hf
      obtain ⟨d1, d2⟩ := he.dec
      have f1 : q.p = decP (wOf e).2 := f1
      have f3 : q.ph + 4096 * q.g = decF (wOf e).2 * 4096 := f3
      rw [d1] at f1
      rw [d2] at f3
      have f2 : q.v + 4096 * q.g = (e.1.1 * 1024 + e.1.2) * 4096 := f2
      obtain ⟨⟨a0, a1⟩, ⟨b0, b1⟩, _, c0⟩ := he
      have g1 : (q.v / 4096 + q.g) / 1024 = e.1.1 := by omega
      have g2 : (q.v / 4096 + q.g) % 1024 = e.1.2 := by omega
      have g3 : q.ph / 4096 + q.g = e.2.2 := by omega
      rw [g1, g2, g3, f1]
    · exact hnew
/-- The ranges lie behind one another, and none goes on where the one ahead ends. -/
def Beside (l : List R4) : Prop := ∀ i, i + 1 < l.length → ∀ a b, l[i]? = some a → l[i + 1]? = some b → folB a b = false ∧ a.v < b.v
theorem beside_snoc {l : List R4} {r : R4} (h : Beside l) (hr : ∀ q, l.getLast? = some q → folB q r = false ∧ q.v < r.v) : Beside (l ++ [r]) := by
  intro i hi a b ha hb
  rw [List.length_append, List.length_singleton] at hi
  by_cases e : i + 1 < l.length
  · rw [List.getElem?_append_left (by omega)] at ha
    rw [List.getElem?_append_left (by omega)] at hb
    exact h i e a b ha hb
  · rw [List.getElem?_append_left (by omega)] at ha
    rw [List.getElem?_append_right (by omega), show i + 1 - l.length = 0 by omega] at hb
    simp only [List.getElem?_cons_zero, Option.some.injEq] at hb
    subst hb
    exact hr a (by rw [List.getLast?_eq_getElem?, show l.length - 1 = i by omega]; exact ha)
theorem beside_pre {l : List R4} {r : R4} (h : Beside (l ++ [r])) : Beside l ∧ ∀ q, l.getLast? = some q → folB q r = false ∧ q.v < r.v := by
  refine ⟨fun i hi a b ha hb => h i (by simp; omega) a b (by rw [List.getElem?_append_left (by omega)]; exact ha) (by rw [List.getElem?_append_left (by omega)]; exact hb), fun q hq => ?_⟩
  rw [List.getLast?_eq_getElem?] at hq
  have hlt := (List.getElem?_eq_some_iff.1 hq).1
  exact h (l.length - 1) (by simp; omega) q r (by rw [List.getElem?_append_left (by omega)]; exact hq) (by rw [List.getElem?_append_right (by omega), show l.length - 1 + 1 - l.length = 0 by omega]; rfl)
theorem merge_beside : ∀ l : List (Int × Int), l.Pairwise ByAt → Beside (mergeP l) := by
  refine list_snoc (fun _ i hi => by simp [mergeP] at hi) ?_
  intro l x ih hs
  rw [List.pairwise_append] at hs
  have ih := ih hs.1
  have hx : ∀ y ∈ l, y.1 < x.1 := fun y hy => hs.2.2 y hy x (by simp)
  rw [mergeP_snoc]
  have hv : ∀ q ∈ mergeP l, q.v < x.1 := fun q hq => by
    obtain ⟨⟨y, hy, e, _⟩, _⟩ := mergeP_mem _ q hq
    rw [e]; exact hx y hy
  unfold mgStep
  split
  · rename_i hn
    rw [List.getLast?_eq_none_iff] at hn
    rw [hn]
    intro i hi
    simp at hi
  · rename_i q hq
    split
    · rename_i hf
      have hne : mergeP l ≠ [] := by intro e; rw [e] at hq; simp at hq
      rw [List.getLast?_eq_some_getLast hne, Option.some.injEq] at hq
      have hl : mergeP l = (mergeP l).dropLast ++ [q] := by rw [← hq, List.dropLast_concat_getLast hne]
      rw [hl] at ih
      obtain ⟨h1, h2⟩ := beside_pre ih
      exact beside_snoc h1 h2
    · rename_i hf
      refine beside_snoc ih fun q' hq' => ?_
      rw [hq] at hq'
      cases hq'
      exact ⟨by simpa using hf, hv q (List.mem_of_getLast? hq)⟩
/-- Columns of told ranges: their pages. -/
theorem allE_cols {l : List R4} {V PH G P : List Int} {k : Nat} (h : RCols l V PH G P k) : allE ⟨V, PH, G, P⟩ k = l.flatMap pgs4 := by
  obtain ⟨rfl, rfl, rfl, rfl, rfl⟩ := h
  have hc : ∀ (g : R4 → Int) i, i < l.length → (l.map g).getD i 0 = g (l.getD i ⟨0, 0, 0, 0⟩) := fun g i hi => by
    simp only [List.getD_eq_getElem?_getD, List.getElem?_map, List.getElem?_eq_getElem hi, Option.map_some, Option.getD_some]
  obtain ⟨L, hL⟩ : ∃ L : Rgs, L = ⟨l.map (·.v), l.map (·.ph), l.map (·.g), l.map (·.p)⟩ := ⟨_, rfl⟩
  rw [← hL]
  have h1 : ∀ i, i < l.length → rgE L i (L.G.getD i 0).toNat = pgs4 (l.getD i ⟨0, 0, 0, 0⟩) := fun i hi => by
    have e1 : L.V.getD i 0 = (l.getD i ⟨0, 0, 0, 0⟩).v := by rw [hL]; exact hc _ i hi
    have e2 : L.PH.getD i 0 = (l.getD i ⟨0, 0, 0, 0⟩).ph := by rw [hL]; exact hc _ i hi
    have e3 : L.G.getD i 0 = (l.getD i ⟨0, 0, 0, 0⟩).g := by rw [hL]; exact hc _ i hi
    have e4 : L.P.getD i 0 = (l.getD i ⟨0, 0, 0, 0⟩).p := by rw [hL]; exact hc _ i hi
    rw [rgE, pgs4, e3]
    refine List.map_congr_left fun j _ => ?_
    simp only [pgE, pgOf, e1, e2, e4]
  unfold allE
  rw [List.flatMap_def, List.flatMap_def, List.map_congr_left (g := fun i => pgs4 (l.getD i ⟨0, 0, 0, 0⟩)) fun i hi => h1 i (List.mem_range.1 hi)]
  congr 1
  refine List.ext_getElem (by simp) fun i h1 h2 => ?_
  simp only [List.length_map] at h2
  simp [List.getD_eq_getElem?_getD, List.getElem?_eq_getElem h2]
end Go.Proofs.Ytnefllaeleihcaa
end

/-
  Plain: TablesAgain: two spaces of one arena.
-/
section
namespace Go.Proofs.Ytnefllaeleihcaa
open Go Go.Vex
set_option maxHeartbeats 4000000
/-- The few ranges: what Map asks of them. -/
theorem few_good {L K : Rgs} {n : Nat} (hn : n ≤ 4) (hK : K = ⟨(List.range n).map (fV L), (List.range n).map (fH L), (List.range n).map (fG L), (List.range n).map (fPm L)⟩) :
    RgsOk K n ∧ (List.range n).any (badR K) = false ∧ (allE K n).Pairwise ByPg ∧ (∀ e ∈ allE K n, OkE e) ∧ ∃ Fs : List Int, Fs.length ≤ 8 ∧ ∀ e ∈ allE K n, e.1.1 ∈ Fs := by
  have hV : ∀ i, i < n → K.V.getD i 0 = fV L i := fun i hi => by rw [hK]; exact getD_col hi
  have hH : ∀ i, i < n → K.PH.getD i 0 = fH L i := fun i hi => by rw [hK]; exact getD_col hi
  have hG : ∀ i, i < n → K.G.getD i 0 = fG L i := fun i hi => by rw [hK]; exact getD_col hi
  have hP : ∀ i, i < n → K.P.getD i 0 = fPm L i := fun i hi => by rw [hK]; exact getD_col hi
  have hcol : ∀ (f : Nat → Int) (P : Int → Prop), P 0 → (∀ i, i < n → P (f i)) → ∀ j, P (((List.range n).map f).getD j 0) := fun f P h0 h j => by
    by_cases hj : j < n
    · rw [getD_col hj]; exact h j hj
    · rw [List.getD_eq_getElem?_getD, List.getElem?_eq_none (by simp; omega)]; exact h0
  refine ⟨?_, ?_, ?_, ?_, (List.range n).flatMap fun i => [fV L i / 4096 / 1024, fV L i / 4096 / 1024 + 1], ?_, ?_⟩
  · rw [hK]
    refine ⟨hcol _ (fun z => 0 ≤ z ∧ z < 4294967296) (by decide) fun i hi => ?_, hcol _ (fun z => 0 ≤ z ∧ z < 4294967296) (by decide) fun i hi => ?_, hcol _ (fun z => -9223372036854775808 ≤ z ∧ z < 9223372036854775808) (by decide) fun i hi => ?_, hcol _ (fun z => 0 ≤ z ∧ z < 256) (by decide) fun i hi => ?_, by omega⟩
    · have := fV_bd (L := L) i; omega
    · have := fH_bd (L := L) i; omega
    · have := fG_bd L i; omega
    · have := permOk_bd (fPm_ok L i); omega
  · rw [Bool.eq_false_iff, ne_eq, List.any_eq_true]
    rintro ⟨i, hi, hb⟩
    have hi := List.mem_range.1 hi
    have h1 := fV_bd (L := L) i
    have h2 := fH_bd (L := L) i
    have h3 := fG_bd L i
    have h4 := fPm_ok L i
    simp only [badR, hV i hi, hH i hi, hG i hi, hP i hi, mayB, Bool.not_eq_true', decide_eq_false_iff_not] at hb
    refine hb ⟨encE1.2 ⟨h4, by omega⟩, by omega, by omega, by omega, ?_, by omega⟩
    split at h1 <;> omega
  · refine allE_sorted (fun i hi => by rw [hV i hi]; exact (fV_bd i).2.2.2) fun i j hij hj => ?_
    have h1 := fV_apart (L := L) hij
    have h2 := fV_bd (L := L) i
    rw [hV i (by omega), hV j hj, hG i (by omega)]
    omega
  · intro e he
    obtain ⟨i, j, hi, hj, rfl⟩ := mem_allE.1 he
    rw [hG i hi] at hj
    have h1 := fV_bd (L := L) i
    have h2 := fH_bd (L := L) i
    have h3 := fG_bd L i
    have h5 := h1.2.1
    have h6 := h1.2.2.2
    clear h1
    refine ⟨?_, ?_, ?_, ?_⟩
    · simp only [pgE, pgOf, hV i hi]; omega
    · simp only [pgE, pgOf, hV i hi]; omega
    · simp only [pgE, hH i hi, hP i hi]; exact encE1.2 ⟨fPm_ok L i, by omega⟩
    · simp only [pgE, hH i hi]; omega
  · rw [List.length_flatMap]
    simp only [List.length_cons, List.length_nil, List.map_const', List.length_range, List.sum_replicate_nat]
    omega
  · intro e he
    obtain ⟨i, j, hi, hj, rfl⟩ := mem_allE.1 he
    rw [hG i hi] at hj
    have h1 := fV_bd (L := L) i
    have h3 := fG_bd L i
    rw [List.mem_flatMap]
    refine ⟨i, List.mem_range.2 hi, ?_⟩
    simp only [pgE, pgOf, hV i hi, List.mem_cons, List.not_mem_nil, or_false]
    omega
/-- Ranges that were told may be mapped. -/
theorem told_good {E : List PgE} (hE : ∀ e ∈ E, OkE e) {V PH G P : List Int} {k : Nat} (h : RCols (mergeP (E.map wOf)) V PH G P k) : (List.range k).any (badR ⟨V, PH, G, P⟩) = false := by
  have hp := merge_pgs E hE
  have hm := merge_mod hE
  obtain ⟨rl, hrl⟩ : ∃ x, x = mergeP (E.map wOf) := ⟨_, rfl⟩
  rw [← hrl] at h hp hm
  obtain ⟨rfl, rfl, rfl, rfl, rfl⟩ := h
  rw [Bool.eq_false_iff, ne_eq, List.any_eq_true]
  rintro ⟨i, hi, hb⟩
  have hi := List.mem_range.1 hi
  have hr : rl[i] ∈ rl := List.getElem_mem hi
  obtain ⟨r, hrr⟩ : ∃ r, r = rl[i] := ⟨_, rfl⟩
  rw [← hrr] at hr
  obtain ⟨h1, h2, h3⟩ := hm r hr
  have hin : ∀ j : Nat, (j : Int) < r.g → OkE (((r.v / 4096 + j) / 1024, (r.v / 4096 + j) % 1024), (r.p, r.ph / 4096 + j)) := fun j hj => hE _ (by
    rw [← hp, List.mem_flatMap]
    exact ⟨r, hr, List.mem_map.2 ⟨j, List.mem_range.2 (by omega), rfl⟩⟩)
  obtain ⟨a1, a2, a3, a4⟩ := hin 0 (by omega)
  obtain ⟨b1, b2, b3, b4⟩ := hin (r.g - 1).toNat (by omega)
  simp only at a1 a2 a3 a4 b1 b2 b3 b4
  have a3 := encE1.1 a3
  have b3 := encE1.1 b3
  have hc : ∀ g : R4 → Int, (rl.map g).getD i 0 = g r := fun g => by
    rw [List.getD_eq_getElem?_getD, List.getElem?_map, List.getElem?_eq_getElem hi, hrr]; rfl
  simp only [badR, hc, mayB, Bool.not_eq_true', decide_eq_false_iff_not] at hb
  exact hb ⟨encE1.2 ⟨a3.1, by omega⟩, h1, h2, h3, by omega, by omega⟩
theorem told_ok {l : List (Int × Int)} (hl : l.length < 4611686018427387904) (hb : ∀ x ∈ l, (0 ≤ x.1 ∧ x.1 < 4294967296) ∧ (0 ≤ decF x.2 ∧ decF x.2 ≤ 4095) ∧ (0 ≤ decP x.2 ∧ decP x.2 < 256)) {V PH G P : List Int} {k : Nat} (h : RCols (mergeP l) V PH G P k) : RgsOk ⟨V, PH, G, P⟩ k := by
  have hm := mergeP_mem l
  have hlen := mergeP_len l
  obtain ⟨rl, hrl⟩ : ∃ x, x = mergeP l := ⟨_, rfl⟩
  rw [← hrl] at h hm hlen
  obtain ⟨rfl, rfl, rfl, rfl, rfl⟩ := h
  have hc : ∀ (g : R4 → Int) (Q : Int → Prop), Q 0 → (∀ r ∈ rl, Q (g r)) → ∀ j, Q ((rl.map g).getD j 0) := fun g Q h0 h j => by
    rw [List.getD_eq_getElem?_getD, List.getElem?_map]
    cases e : rl[j]? with
    | none => exact h0
    | some r => exact h r (List.mem_of_getElem? e)
  refine ⟨hc _ (fun z => 0 ≤ z ∧ z < 4294967296) (by decide) fun r hr => ?_, hc _ (fun z => 0 ≤ z ∧ z < 4294967296) (by decide) fun r hr => ?_, hc _ (fun z => -9223372036854775808 ≤ z ∧ z < 9223372036854775808) (by decide) fun r hr => ?_, hc _ (fun z => 0 ≤ z ∧ z < 256) (by decide) fun r hr => ?_, by omega⟩
  all_goals obtain ⟨⟨x, hx, e1, e2, e3⟩, g1, g2⟩ := hm r hr; obtain ⟨c1, c2, c3⟩ := hb x hx
  · rw [e1]; exact c1
  · rw [e2]; omega
  · omega
  · rw [e3]; exact c3
def agF : Int → Int := zeroF (zeroF (fun _ => 0) 409600) 413696
theorem agF_ok : MemOk agF := zeroF_ok (zeroF_ok (fun _ => by decide) _) _
theorem again_plain {L K : Rgs} {n : Nat} (hn : n ≤ 4) (hK : K = ⟨(List.range n).map (fV L), (List.range n).map (fH L), (List.range n).map (fG L), (List.range n).map (fPm L)⟩) :
    RgsOk K n ∧ ∃ (W : List (Int × Int)) (f1 : Int → Int) (tk1 : Int), W.Pairwise ByAt ∧ mapP 128 409600 28 2 409600 false agF K n = (0, f1, tk1) ∧ (0 ≤ tk1 ∧ tk1 ≤ 28) ∧ allP 128 f1 409600 = W ∧
      ∀ (V PH G P : List Int) (k : Nat), RCols (mergeP W) V PH G P k → RgsOk ⟨V, PH, G, P⟩ k ∧ ∃ (f2 : Int → Int) (tk2 : Int), mapP 128 409600 28 tk1 413696 false f1 ⟨V, PH, G, P⟩ k = (0, f2, tk2) ∧ allP 128 f2 409600 = W ∧ allP 128 f2 413696 = W := by
  obtain ⟨hKok, hgood, hsort, hE, Fs, hFs, hin⟩ := few_good hn hK
  refine ⟨hKok, ?_⟩
  have hnd := byPg_nodup hsort
  have hp1 : Pg 128 409600 := ⟨by decide, by decide, by decide⟩
  have hp2 : Pg 128 413696 := ⟨by decide, by decide, by decide⟩
  have hz : ∀ a, a % 4 = 0 → 409600 ≤ a → a < 417792 → w32f agF a = 0 := fun a h0 h1 h2 => by
    rw [agF, w32_zero h0 (by decide)]
    split
    · rfl
    · rw [w32_zero h0 (by decide), if_pos (by omega)]
  have hx : ∀ x ∈ allPgs K n, 0 ≤ x.1 ∧ x.1 < 1024 ∧ 0 ≤ x.2 ∧ x.2 < 1024 ∧ (0 : Int) = 0 := fun x hx => by
    rw [← allE_pgs] at hx
    obtain ⟨e, he, rfl⟩ := List.mem_map.1 hx
    obtain ⟨h1, h2, _⟩ := hE e he
    exact ⟨h1.1, h1.2, h2.1, h2.2, rfl⟩
  have hfst : ∀ i, (∃ x ∈ allPgs K n, x.1 = i) ↔ ∃ e ∈ allE K n, e.1.1 = i := fun i => by
    rw [← allE_pgs]
    constructor
    · rintro ⟨x, hx, rfl⟩
      obtain ⟨e, he, rfl⟩ := List.mem_map.1 hx
      exact ⟨e, he, rfl⟩
    · rintro ⟨e, he, rfl⟩
      exact ⟨e.1, List.mem_map.2 ⟨e, he, rfl⟩, rfl⟩
  have hlen : ∀ ws : List Int, ws.Nodup → (∀ i ∈ ws, ∃ e ∈ allE K n, e.1.1 = i) → ws.length ≤ 8 := fun ws hws hm => by
    have := nd_le ws Fs hws fun i hi => by obtain ⟨e, he, rfl⟩ := hm i hi; exact hin e he
    omega
  obtain ⟨f1, tb1, ws1, g1, g2, g3, g4, g5, g6, g7, g8, g9⟩ := map_ok (SpInv.new hp1 fun i h0 h1 => hz _ (by omega) (by omega) (by omega)) (n := 128) (base := 409600) (pages := 28) (taken := 2) (sealed := false) (L := K) (m := n) ⟨by decide, by decide, by decide, by decide, by decide⟩ (fun i t h => by cases h) (by decide) hgood (by rw [← allE_pgs]; exact hnd) hx (fun e he => ⟨(hE e he).2.2.1, (hE e he).2.2.2⟩) (fun ws hws hm => ⟨by
      have := hlen ws hws fun i hi => (hfst i).1 ((hm i).1 hi).2
      omega, fun _ => rfl⟩)
  have hl1 := hlen ws1 g3 fun i hi => (hfst i).1 ((g4 i).1 hi).2
  obtain ⟨W, hW⟩ : ∃ W, W = (allE K n).map wOf := ⟨_, rfl⟩
  have hall1 := allP_setA (n := 128) (by decide) g2 hsort hE
  have hWs : W.Pairwise ByAt := by rw [hW, ← hall1]; exact allP_sorted _ _ _
  obtain ⟨tk1, htk1⟩ : ∃ x : Int, x = 2 + (ws1.length : Int) := ⟨_, rfl⟩
  rw [← htk1] at g1 g5 g9
  refine ⟨W, f1, tk1, hWs, g1, by omega, by rw [hall1, hW], fun V PH G P k hc => ?_⟩
  rw [hW] at hc
  have hbd : ∀ x ∈ (allE K n).map wOf, (0 ≤ x.1 ∧ x.1 < 4294967296) ∧ (0 ≤ decF x.2 ∧ decF x.2 ≤ 4095) ∧ (0 ≤ decP x.2 ∧ decP x.2 < 256) := fun x hx => by
    obtain ⟨e, he, rfl⟩ := List.mem_map.1 hx
    obtain ⟨d1, d2⟩ := (hE e he).dec
    obtain ⟨a, b, c, d⟩ := hE e he
    have := encE1.1 c
    have := permOk_bd this.1
    rw [d1, d2]
    have e1 : (wOf e).1 = (e.1.1 * 1024 + e.1.2) * 4096 := rfl
    rw [e1]
    omega
  have hEk := allE_cols hc
  rw [merge_pgs _ hE] at hEk
  refine ⟨told_ok (by
    have : (allE K n).length ≤ 1048576 := by
      have h := congrArg List.length hall1
      rw [List.length_map] at h
      rw [← h]
      exact (Cols.le (n := 128) (f := f1) (root := 409600) ⟨rfl, rfl, rfl, rfl⟩)
    rw [List.length_map]; omega) hbd hc, ?_⟩
  have hz2 : ∀ i, 0 ≤ i → i < 1024 → w32f f1 (413696 + 4 * i) = 0 := fun i h0 h1 => by
    rw [g9 _ (by omega) (by omega) (fun j t ht => by
      rcases g8 j t ht with h | h
      · cases h
      · left; omega) (by omega)]
    exact hz _ (by omega) (by omega) (by omega)
  obtain ⟨f2, tb2, ws2, k1, k2, k3, k4, k5, k6, k7, k8, k9⟩ := map_ok (SpInv.new hp2 hz2) (n := 128) (base := 409600) (pages := 28) (taken := tk1) (sealed := false) (L := ⟨V, PH, G, P⟩) (m := k) ⟨by decide, by decide, by decide, by omega, by decide⟩ (fun i t h => by cases h) (by omega) (told_good hE hc) (by rw [← allE_pgs, hEk]; exact hnd) (fun x hx' => by rw [← allE_pgs, hEk, allE_pgs] at hx'; exact hx x hx') (fun e he => by rw [hEk] at he; exact ⟨(hE e he).2.2.1, (hE e he).2.2.2⟩) (fun ws hws hm => ⟨by
      have := hlen ws hws fun i hi => by
        obtain ⟨_, x, hx', e⟩ := (hm i).1 hi
        rw [← allE_pgs, hEk, allE_pgs] at hx'
        exact (hfst i).1 ⟨x, hx', e⟩
      omega, fun _ => rfl⟩)
  rw [hEk] at k2
  refine ⟨f2, _, k1, ?_, ?_⟩
  · have hs : SpInv 128 f2 409600 tb1 (setA (fun _ _ => 0) (allE K n)) := by
      refine g2.elsewhere (fun j h0 h1 => k9 _ (by omega) (by omega) (fun i t ht => by
        rcases k8 i t ht with h | h
        · cases h
        · left; omega) (by omega)) fun i t j ht h0 h1 => ?_
      have h5 := g5 i t ht
      have hpt := (g2.pt i t ht).1.2.1
      have h8 : 409600 + 4096 * 2 ≤ t := by
        rcases g8 i t ht with h | h
        · cases h
        · exact h
      refine k9 _ (by omega) (by omega) (fun i' t' ht' => ?_) (by omega)
      rcases k8 i' t' ht' with h | h
      · cases h
      · left; omega
    rw [allP_setA (n := 128) (by decide) hs hsort hE, hW]
  · rw [allP_setA (n := 128) (by decide) k2 hsort hE, hW]
end Go.Proofs.Ytnefllaeleihcaa
end

/-
  The law's entries: All of a root, as a list.
-/
section
namespace Go.Proofs.Ytnefllaeleihcaa
open Go Go.Vex
set_option maxRecDepth 20000
set_option maxHeartbeats 4000000
noncomputable def I33 : FnT := [(33, fi Try.f33 ⟨[1000006], 0⟩), (64, fi Try.f64 ⟨[], 0⟩)]
theorem I33ok : FnsOk kit I33 := ⟨fo33 _, fo64 _, trivial⟩
noncomputable def I89 : FnT := [(89, fi Try.f89 ⟨[], 0⟩)]
theorem I89ok : FnsOk kit I89 := ⟨fo89 _, trivial⟩
/-- A list in its variable. -/
def outSh (A P F : List Int) (k : Nat) (bs : List Blk) : Prop := ∃ cap jc : Nat, k ≤ cap ∧ cap - k = jc ∧ bs = [.cells 81 [.slc 1 0 4 (.lit 0) (.ex k) (.ex cap)], .cells 87 [.rows 4 (.ex k) (fndG A P F), .junk 4 (.ex jc)]]
abbrev outB (A P F : List Int) (k : Nat) : Blk := .pk (outSh A P F k)
theorem entries_spec (n : Int) (f : Int → Int) (root : Int) (hn : 1 ≤ n ∧ n ≤ 4096) (hm : MemOk f) (hr : 0 ≤ root ∧ root < 4294967296) {A0 P0 F0 : List Int} {m : Nat} (hc0 : Cols (allP n f root) A0 P0 F0 m) :
    SpecM kit 33 [.p 0 (.at 0), .i .u32 (.ex root)] [memB n f] fun q v hp1 new => q = false ∧ hp1 = [memB n f] ∧ ∃ cap jc, m ≤ cap ∧ cap - m = jc ∧ v = .slc 2 0 4 (.lit 0) (.ex m) (.ex cap) ∧ new = [.cells 87 [.rows 4 (.ex m) (fndG A0 P0 F0), .junk 4 (.ex jc)]] := by
  have hmle := hc0.le
  refine SpecM.mk2 fun F => ?_
  refine into I33ok 6 ?_
  conv => cbv
  refine Ok.ext (HExt.nilFill 2 0 0 4 (.cells 87 [.rows 4 (.ex 0) (fndG [] [] []), .junk 4 (.ex 0)]) rfl rfl (nil_rows 87 4 _)) ?_
  refine Ok.imp (HImp.fold (S := outSh A0 P0 F0 0) 2 [5] [.cells 81 [.slc 1 0 4 (.lit 0) (.ex 0) (.ex 0)], .cells 87 [.rows 4 (.ex 0) (fndG A0 P0 F0), .junk 4 (.ex 0)]] (by decide) ?_ ⟨0, 0, by decide, rfl, rfl⟩) ?_
  · conv => cbv
    exact ⟨⟨fun j hj => absurd hj (Nat.not_lt_zero _), trivial⟩, trivial⟩
  refine Ok.weak (q' := false) (st' := ⟨[(10, .fn (.func 89) [] [.p 3 (.at 0), .p 4 (.at 0)]), (5, .p 2 (.at 0))], [memB n f, .abs F, outB A0 P0 F0 0, .cells 38 [.p 0 (.at 0)], .cells 27 [.i .u32 (.ex root)]]⟩) (LeSt.mk' [0, 1, 2, 3, 4] (by decide) (by rfl) (by decide) (by cbv) (by cbv)) ?_
  refine Ok.rangeFunc [5] rfl rfl rfl fun y R hR => ?_
  conv => cbv
  refine into I89ok 6 ?_
  conv => cbv
  refine OkCall.by_specM (all_spec n f root hn hm hr hc0) [0] (by decide) (by cbv) (by cbv) ?_
  rintro q v hp1 new ⟨rfl, rfl, cap, jc, hcap, hjc, rfl, rfl⟩
  conv => cbv
  refine OkLoop.gen fun Q1 hQ1 => ?_
  refine byInv I89ok 6 ⟨[], 0⟩ (fun a : Int × Nat => ⟨[(10, .i .i64 (.ex a.1)), (9, .i .i64 (.ex (ofN m))), (8, .slc 7 0 4 (.lit 0) (.ex m) (.ex cap)), (0, .fn (.yield y) [] [])], [memB n f, .abs F, outB A0 P0 F0 a.2, .cells 38 [.p 0 (.at 0)], .cells 27 [.i .u32 (.ex root)], .obj (.deferred (some [])), .av [.p 2 (.at 0)] (R .ready none), .cells 186 [.rows 4 (.ex m) (fndG A0 P0 F0), .junk 4 (.ex jc)]]⟩)
    (fun a => (m - a.1).toNat) (fun a => 0 ≤ a.1 ∧ a.1 ≤ m ∧ a.2 = a.1.toNat) false (0, 0) (by kernel_rfl) ⟨by omega, by omega, rfl⟩ (LeSt.mk' [0, 1, 2, 3, 4, 5, 6, 8] (by decide) (by rfl) (by decide) (by cbv) ?_) ?_
  · conv => cbv
    exact ⟨⟨fun j _ => fndG_le _ _ _ _ _, trivial⟩, trivial⟩
  rintro ⟨z, k⟩ ⟨hz0, hz1, hk⟩
  simp only at hz0 hz1 hk
  obtain ⟨z1, hz1'⟩ : ∃ x, z + 1 = x := ⟨_, rfl⟩
  obtain ⟨k1, hk1⟩ : ∃ x, x = k + 1 := ⟨_, rfl⟩
  conv => cbv
  refine Br.mk (fun hc => ?_) (fun hc => ?_)
  · have hc : z < (m : Int) := by have h : z < ofN m := ltI_t.1 hc; rw [ofN_eq] at h; exact h
    conv => cbv
    refine ⟨inR.mk hz0 hc, nLt.mk (by simp only [leafs]; omega), ?_⟩
    refine YCall.of hR 6 rfl rfl rfl (kcode (I := []) trivial 3 ⟨[], 0⟩ (by kernel_rfl) ?_)
    conv => cbv
    refine Ok.unfold 2 rfl ?_
    rintro ol ⟨cap2, jc2, hcap2, hjc2, rfl⟩
    conv => cbv
    refine kcode (I := []) trivial 6 ⟨[], 0⟩ (by kernel_rfl) ?_
    conv => cbv
    refine ⟨by show eqN k k; rw [eqN_eq], by show eqN (addN k jc2) cap2; rw [eqN_eq, addN_eq]; omega, by show apOk (addN k 1) 24; rw [apOk_eq, addN_eq]; omega, AllN.mk fun cap3 hcap3 => ?_⟩
    have hcap3 : k1 ≤ cap3 := by have h : addN k 1 ≤ cap3 := hcap3; rw [addN_eq] at h; omega
    obtain ⟨jc3, hjc3⟩ : ∃ x, cap3 - k1 = x := ⟨_, rfl⟩
    conv => cbv
    refine ⟨(z1, k1), ⟨⟨by show 0 ≤ z1; omega, by show z1 ≤ (m : Int); omega, by show k1 = z1.toNat; omega⟩, by show ((m : Int) - z1).toNat < ((m : Int) - z).toNat; omega⟩, _, (HImp.fold (S := outSh A0 P0 F0 k1) 2 [12] [.cells 81 [.slc 1 0 4 (.lit 0) (.ex k1) (.ex cap3)], .cells 87 [.rows 4 (.ex k1) (fndG A0 P0 F0), .junk 4 (.ex jc3)]] (by decide) ?_ ⟨cap3, jc3, hcap3, hjc3, rfl⟩).ext, LeSt.mk' [0, 1, 2, 3, 4, 5, 6, 7] (by decide) (by rfl) (by decide) ?_ ?_⟩
    · conv => cbv
      refine ⟨⟨⟨?_, trivial⟩, trivial⟩, ⟨⟨?_, fun j hj => ?_⟩, ?_, trivial⟩, trivial⟩
      · show k1 = addN k 1
        rw [addN_eq, hk1]
      · show k1 = addN k 1
        rw [addN_eq, hk1]
      · have hj : j < addN k 1 := hj
        rw [addN_eq] at hj
        show leL (jn (fun j => renL _ (fndG A0 P0 F0 j)) (fun _ => [.i .u32 (.ex (gi A0 (toN z))), .i .i64 (.lit 1), .i .u8 (.ex (gi P0 (toN z))), .i .u32 (.ex (gi F0 (toN z)))]) k j) (fndG A0 P0 F0 j)
        rw [jn_eq]
        show leL (if j < k then renL _ (fndG A0 P0 F0 j) else _) _
        by_cases hjn : j < k
        · rw [if_pos hjn]; exact ⟨⟨rfl, rfl⟩, ⟨rfl, rfl⟩, ⟨rfl, rfl⟩, ⟨rfl, rfl⟩, trivial⟩
        · rw [if_neg hjn]
          have hjz : j = toN z := by rw [toN_eq]; omega
          subst hjz
          exact ⟨⟨rfl, rfl⟩, ⟨rfl, rfl⟩, ⟨rfl, rfl⟩, ⟨rfl, rfl⟩, trivial⟩
      · show jc3 = subN cap3 (addN k 1)
        rw [subN_eq, addN_eq, ← hjc3, hk1]
    · conv => cbv
      refine ⟨?_, trivial⟩
      show z1 = addI .i64 z 1
      rw [addI_eq, IntWalk.i64_in _ (by omega), hz1']
    · conv => cbv
      exact ⟨⟨fun j _ => fndG_le _ _ _ _ _, trivial⟩, trivial⟩
  · have hc : (m : Int) ≤ z := by have h : ofN m ≤ z := ltI_f.1 hc; rw [ofN_eq] at h; exact h
    have hkm : k = m := by omega
    subst hkm
    conv => cbv
    subst hQ1
    conv => cbv
    refine ⟨.normal, ?_⟩
    conv => cbv
    refine Ok.unfold 2 rfl ?_
    rintro ol ⟨cap2, jc2, hcap2, hjc2, rfl⟩
    refine kcode I33ok 6 ⟨[], 0⟩ (by kernel_rfl) ?_
    conv => cbv
    refine ⟨_, _, _, _, ⟨rfl, rfl, cap2, jc2, hcap2, hjc2, rfl, rfl⟩, rfl, (LeOut.mk' [0, 1, 8] (by decide) (by rfl) (by decide) (by cbv) ?_).two⟩
    conv => cbv
    exact ⟨⟨fun j _ => ⟨⟨rfl, rfl⟩, ⟨rfl, rfl⟩, ⟨rfl, rfl⟩, ⟨rfl, rfl⟩, trivial⟩, trivial⟩, trivial⟩
end Go.Proofs.Ytnefllaeleihcaa
end
