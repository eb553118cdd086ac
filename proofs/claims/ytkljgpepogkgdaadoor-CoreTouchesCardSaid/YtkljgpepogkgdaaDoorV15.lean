/-
  VEX, part 15: calls by contract, 2: the frame.
-/
import Derived.Test.YtkljgpepogkgdaaDoorV14
set_option linter.unusedSimpArgs false
namespace Go.Vex
set_option linter.unusedVariables false
noncomputable section

/-- The callee's names in the caller's words. -/
def tau (σ : List Nat) (N : Nat) (x : Nat) : Nat :=
  match σ[x]? with
  | some y => y
  | none => N + (x - σ.length)
theorem tau_lt {σ : List Nat} {N x y : Nat} (h : σ[x]? = some y) : tau σ N x = y := by unfold tau; rw [h]
theorem tau_ge {σ : List Nat} {N x : Nat} (h : σ.length ≤ x) : tau σ N x = N + (x - σ.length) := by unfold tau; rw [List.getElem?_eq_none h]

def putL : List Blk → List Nat → List Blk → List Blk
  | hp, [], _ => hp
  | hp, _ :: _, [] => hp
  | hp, x :: σ, k :: ks => putL (hp.set x k) σ ks
theorem putL_length : ∀ (σ : List Nat) (hp ks : List Blk), (putL hp σ ks).length = hp.length
  | [], hp, ks => by simp [putL]
  | x :: σ, hp, [] => rfl
  | x :: σ, hp, k :: ks => by unfold putL; rw [putL_length σ]; simp
theorem putL_out : ∀ (σ : List Nat) (hp ks : List Blk) (y : Nat), y ∉ σ → (putL hp σ ks)[y]? = hp[y]?
  | [], hp, ks, y, _ => by simp [putL]
  | x :: σ, hp, [], y, _ => rfl
  | x :: σ, hp, k :: ks, y, h => by
    unfold putL
    simp only [List.mem_cons, not_or] at h
    rw [putL_out σ _ ks y h.2, List.getElem?_set_ne (Ne.symm h.1)]
theorem putL_in : ∀ (σ : List Nat) (hp ks : List Blk) (i y : Nat), σ.Nodup → ks.length = σ.length → (∀ x ∈ σ, x < hp.length) → σ[i]? = some y → (putL hp σ ks)[y]? = ks[i]?
  | [], hp, ks, i, y, _, _, _, h => by simp at h
  | x :: σ, hp, [], i, y, _, hl, _, h => by simp at hl
  | x :: σ, hp, k :: ks, i, y, hn, hl, hb, h => by
    unfold putL
    rw [List.nodup_cons] at hn
    cases i with
    | zero =>
      simp at h; subst h
      rw [putL_out σ _ ks x hn.1, List.getElem?_set_self (hb x (by simp))]; rfl
    | succ i =>
      simp at h
      rw [putL_in σ _ ks i y hn.2 (by simpa using hl) (fun z hz => by simpa using hb z (by simp [hz])) h]; rfl

def own0 : Own := ⟨[], []⟩
def restL (σ : List Nat) (N : Nat) : List Nat := (List.range N).filter fun y => !σ.contains y
theorem mem_restL {σ : List Nat} {N y : Nat} : y ∈ restL σ N ↔ y < N ∧ y ∉ σ := by simp [restL]
def restO (σ : List Nat) (ω : List Own) : Own :=
  ⟨(restL σ ω.length).flatMap fun y => (ω.getD y own0).own, (restL σ ω.length).flatMap fun y => (ω.getD y own0).see⟩
theorem getD_of {ω : List Own} {y : Nat} {o : Own} (h : ω[y]? = some o) : ω.getD y own0 = o := by simp [List.getD_eq_getElem?_getD, h]
theorem mem_restO {σ : List Nat} {ω : List Own} {b : Nat} :
    (b ∈ (restO σ ω).own ↔ ∃ y o, y ∉ σ ∧ ω[y]? = some o ∧ b ∈ o.own) ∧ (b ∈ (restO σ ω).see ↔ ∃ y o, y ∉ σ ∧ ω[y]? = some o ∧ b ∈ o.see) := by
  constructor
  all_goals
    simp only [restO, List.mem_flatMap, mem_restL]
    constructor
    · rintro ⟨y, ⟨h1, h2⟩, h3⟩
      have : ω[y]? = some ω[y] := by simp [h1]
      rw [getD_of this] at h3
      exact ⟨y, _, h2, this, h3⟩
    · rintro ⟨y, o, h1, h2, h3⟩
      exact ⟨y, ⟨(List.getElem?_eq_some_iff.1 h2).1, h1⟩, by rw [getD_of h2]; exact h3⟩

theorem agree_rest {σ : List Nat} {ω : List Own} {w w' : World} (h : agree (restO σ ω) w w') {y : Nat} {o : Own} (hy : y ∉ σ) (ho : ω[y]? = some o) : agree o w w' := by
  intro b hb
  refine h b ?_
  rcases hb with hb | hb
  · exact .inl (mem_restO.1.2 ⟨y, o, hy, ho, hb⟩)
  · exact .inr (mem_restO.2.2 ⟨y, o, hy, ho, hb⟩)

def frameA (σ : List Nat) (ω : List Own) (w : World) (addr : Option (Nat × Nat)) (o : Own) (w' : World) : Prop := o = restO σ ω ∧ agree (restO σ ω) w w'

def rhoC (σ : List Nat) (ρ : Rho) : Rho := σ.map (fun x => (ρ[x]?).getD none) ++ [none]
def omC (σ : List Nat) (ω : List Own) : List Own := σ.map (fun x => ω.getD x own0) ++ [restO σ ω]

theorem at_lt {α : Type} {σ : List Nat} {f : Nat → α} {z : α} {x : Nat} {r : α} (h : (σ.map f ++ [z])[x]? = some r) : (∃ y, σ[x]? = some y ∧ r = f y) ∨ (x = σ.length ∧ r = z) := by
  rcases getElem?_snoc _ _ _ _ h with ⟨_, h⟩ | ⟨h1, h2⟩
  · rw [List.getElem?_map] at h
    cases hs : σ[x]? with
    | none => rw [hs] at h; cases h
    | some y => rw [hs] at h; simp at h; exact .inl ⟨y, rfl, h.symm⟩
  · exact .inr ⟨by simpa using h1, h2⟩

theorem nodup_eq {σ : List Nat} (h : σ.Nodup) {x y z : Nat} (hx : σ[x]? = some z) (hy : σ[y]? = some z) : x = y := by
  obtain ⟨h1, h2⟩ := List.getElem?_eq_some_iff.1 hx
  obtain ⟨h3, h4⟩ := List.getElem?_eq_some_iff.1 hy
  exact (List.getElem_inj h).1 (h2.trans h4.symm)

theorem HSatO.sub {ρ : Rho} {ω : List Own} {hp hp0 : List Blk} {w : World} {σ : List Nat} (h : HSatO ρ ω hp w) (hσ : hp0.length = σ.length) (hnd : σ.Nodup)
    (hpre : ∀ (i x : Nat), σ[i]? = some x → ∃ k k0, hp[x]? = some k ∧ hp0[i]? = some k0 ∧ leB k (renB (tau σ hp.length) k0)) :
    HSatO (rhoC σ ρ) (omC σ ω) (hp0 ++ [.abs (frameA σ ω w)]) w ∧ Back (tau σ hp.length) ρ (rhoC σ ρ) := by
  have hback : Back (tau σ hp.length) ρ (rhoC σ ρ) := by
    intro x r hr
    cases hs : σ[x]? with
    | some y =>
      rw [tau_lt hs] at hr
      have hx := (List.getElem?_eq_some_iff.1 hs).1
      unfold rhoC
      rw [List.getElem?_append_left (by simpa using hx), List.getElem?_map, hs]
      simp [hr]
    | none =>
      have hx : σ.length ≤ x := List.getElem?_eq_none_iff.1 hs
      rw [tau_ge hx, h.lenh] at hr
      have := (List.getElem?_eq_some_iff.1 hr).1
      omega
  have hw : ∀ (i x : Nat), σ[i]? = some x → ∃ a o, ρ[x]? = some a ∧ ω[x]? = some o := by
    intro i x hx
    obtain ⟨k, k0, h1, _⟩ := hpre i x hx
    have hlt := (List.getElem?_eq_some_iff.1 h1).1
    exact ⟨ρ[x]'(by rw [← h.lenh]; exact hlt), ω[x]'(by rw [h.lenω, ← h.lenh]; exact hlt), by simp, by simp⟩
  refine ⟨⟨by simp [omC, rhoC], by simp [rhoC, hσ], ?_, ?_, ?_⟩, hback⟩
  · intro x a o k h1 h2 h3
    rcases at_lt h1 with ⟨y, hy, ha⟩ | ⟨hx, ha⟩
    · rcases at_lt h2 with ⟨y', hy', ho⟩ | ⟨hx', ho⟩
      · rw [hy] at hy'; cases hy'
        obtain ⟨a', o', ea, eo⟩ := hw x y hy
        obtain ⟨k', k0, e1, e2, e3⟩ := hpre x y hy
        rw [ea] at ha; simp at ha; subst ha
        rw [getD_of eo] at ho; subst ho
        have hlt := (List.getElem?_eq_some_iff.1 e2).1
        rw [List.getElem?_append_left hlt, e2] at h3
        cases h3
        exact (e3.sat (h.sat y _ _ _ ea eo e1)).back hback
      · have := (List.getElem?_eq_some_iff.1 hy).1; omega
    · rcases at_lt h2 with ⟨y', hy', ho⟩ | ⟨hx', ho⟩
      · have := (List.getElem?_eq_some_iff.1 hy').1; omega
      · subst hx; subst ha; subst ho
        rw [List.getElem?_append_right (by omega), hσ] at h3
        simp at h3
        subst h3
        exact fun w' hag => ⟨rfl, hag⟩
  · intro x y ox oy hx hy b hb
    rcases at_lt hx with ⟨x', hx', ex⟩ | ⟨hx', ex⟩
    · obtain ⟨_, o1, _, e1⟩ := hw x x' hx'
      rw [getD_of e1] at ex; subst ex
      rcases at_lt hy with ⟨y', hy', ey⟩ | ⟨hy', ey⟩
      · obtain ⟨_, o2, _, e2⟩ := hw y y' hy'
        rw [getD_of e2] at ey; subst ey
        have := h.dis x' y' _ _ e1 e2 b hb
        exact ⟨fun h' => by have := this.1 h'; subst this; exact nodup_eq hnd hx' hy', this.2⟩
      · subst ey
        constructor
        · intro h'
          obtain ⟨z, o, hz, ho, hb'⟩ := mem_restO.1.1 h'
          have := (h.dis x' z _ _ e1 ho b hb).1 hb'
          subst this
          exact absurd (List.mem_of_getElem? hx') hz
        · intro h'
          obtain ⟨z, o, hz, ho, hb'⟩ := mem_restO.2.1 h'
          exact (h.dis x' z _ _ e1 ho b hb).2 hb'
    · subst ex
      obtain ⟨z, o, hz, ho, hb'⟩ := mem_restO.1.1 hb
      rcases at_lt hy with ⟨y', hy', ey⟩ | ⟨hy', ey⟩
      · obtain ⟨_, o2, _, e2⟩ := hw y y' hy'
        rw [getD_of e2] at ey; subst ey
        have := h.dis z y' _ _ ho e2 b hb'
        exact ⟨fun h' => by have := this.1 h'; subst this; exact absurd (List.mem_of_getElem? hy') hz, this.2⟩
      · subst ey
        refine ⟨fun _ => by omega, fun h' => ?_⟩
        obtain ⟨z', o', hz', ho', hb2⟩ := mem_restO.2.1 h'
        exact (h.dis z z' _ _ ho ho' b hb').2 hb2
  · intro x ox hx b hb
    rcases at_lt hx with ⟨x', hx', ex⟩ | ⟨hx', ex⟩
    · obtain ⟨_, o1, _, e1⟩ := hw x x' hx'
      rw [getD_of e1] at ex; subst ex
      exact h.bnd x' _ e1 b hb
    · subst ex
      rcases hb with hb | hb
      · obtain ⟨z, o, hz, ho, hb'⟩ := mem_restO.1.1 hb; exact h.bnd z o ho b (.inl hb')
      · obtain ⟨z, o, hz, ho, hb'⟩ := mem_restO.2.1 hb; exact h.bnd z o ho b (.inr hb')

/-! ### Back in the caller -/
section
variable {σ : List Nat} {ρ ρ' : Rho} {ω ω' : List Own} {hp hp1 new : List Blk} {w w' : World}

def omU (σ : List Nat) (ω ω' : List Own) (N y : Nat) : Own :=
  if y < N then (if y ∈ σ then ω'.getD (σ.idxOf y) own0 else ω.getD y own0) else if y = N then own0 else ω'.getD (y - N + σ.length) own0

theorem drop_get {α : Type} (l : List α) (n i : Nat) : (l.drop n)[i]? = l[n + i]? := List.getElem?_drop

theorem up_cls (h : HSatO ρ ω hp w) (hnd : σ.Nodup) (hin : ∀ x ∈ σ, x < hp.length) {F : Option (Nat × Nat) → Own → World → Prop} (h' : HSatO ρ' ω' (hp1 ++ .abs F :: new) w') (e : Ext (rhoC σ ρ) ρ') (hl : hp1.length = σ.length)
    {y : Nat} (hy : y < hp.length + (ρ'.length - σ.length)) :
    (∃ x, x ≠ σ.length ∧ x < ρ'.length ∧ tau σ hp.length x = y ∧ (ρ ++ ρ'.drop σ.length)[y]? = ρ'[x]? ∧ omU σ ω ω' hp.length y = ω'.getD x own0 ∧
      (putL hp σ (hp1.map (renB (tau σ hp.length))) ++ .gone :: new.map (renB (tau σ hp.length)))[y]? = ((hp1 ++ .abs F :: new)[x]?).map (renB (tau σ hp.length))) ∨
    (y < hp.length ∧ y ∉ σ ∧ (ρ ++ ρ'.drop σ.length)[y]? = ρ[y]? ∧ omU σ ω ω' hp.length y = ω.getD y own0 ∧
      (putL hp σ (hp1.map (renB (tau σ hp.length))) ++ .gone :: new.map (renB (tau σ hp.length)))[y]? = hp[y]?) ∨
    (y = hp.length ∧ (ρ ++ ρ'.drop σ.length)[y]? = some none ∧ omU σ ω ω' hp.length y = own0 ∧
      (putL hp σ (hp1.map (renB (tau σ hp.length))) ++ .gone :: new.map (renB (tau σ hp.length)))[y]? = some .gone) := by
  have hN := h.lenh
  have hpl : (putL hp σ (hp1.map (renB (tau σ hp.length)))).length = hp.length := putL_length ..
  have hlen' : ρ'.length = σ.length + 1 + new.length := by rw [← h'.lenh]; simp; omega
  rcases Nat.lt_trichotomy y hp.length with hlt | heq | hgt
  · by_cases hm : y ∈ σ
    · have hi : σ.idxOf y < σ.length := List.idxOf_lt_length_iff.2 hm
      have hs : σ[σ.idxOf y]? = some y := by rw [List.getElem?_eq_getElem hi, List.getElem_idxOf]
      refine .inl ⟨σ.idxOf y, by omega, by omega, tau_lt hs, ?_, ?_, ?_⟩
      · rw [List.getElem?_append_left (by omega)]
        have hρ : ρ[y]? = some (ρ[y]'(by omega)) := by simp
        rw [hρ]
        refine (e _ _ ?_).symm
        unfold rhoC
        rw [List.getElem?_append_left (by simpa using hi), List.getElem?_map, hs]
        simp [hρ]
      · unfold omU; rw [if_pos hlt, if_pos hm]
      · rw [List.getElem?_append_left (by rw [hpl]; exact hlt), putL_in σ hp _ _ y hnd (by simpa using hl) hin hs, List.getElem?_map, List.getElem?_append_left (by omega)]
    · refine .inr (.inl ⟨hlt, hm, List.getElem?_append_left (by omega), ?_, ?_⟩)
      · unfold omU; rw [if_pos hlt, if_neg hm]
      · rw [List.getElem?_append_left (by rw [hpl]; exact hlt), putL_out σ hp _ y hm]
  · refine .inr (.inr ⟨heq, ?_, ?_, ?_⟩)
    · rw [List.getElem?_append_right (by omega), drop_get]
      refine e _ _ ?_
      unfold rhoC
      rw [List.getElem?_append_right (by simp)]
      have : σ.length + (y - ρ.length) - (List.map (fun x => (ρ[x]?).getD none) σ).length = 0 := by simp; omega
      rw [this]; rfl
    · unfold omU; rw [if_neg (by omega), if_pos heq]
    · rw [List.getElem?_append_right (by omega), hpl, heq, Nat.sub_self]; rfl
  · refine .inl ⟨y - hp.length + σ.length, by omega, by omega, ?_, ?_, ?_, ?_⟩
    · rw [tau_ge (by omega)]; omega
    · rw [List.getElem?_append_right (by omega), drop_get]; congr 1; omega
    · unfold omU; rw [if_neg (by omega), if_neg (by omega)]
    · rw [List.getElem?_append_right (by omega), hpl, List.getElem?_append_right (by omega), hl]
      have e1 : y - hp.length = (y - hp.length - 1) + 1 := by omega
      have e2 : y - hp.length + σ.length - σ.length = (y - hp.length - 1) + 1 := by omega
      rw [e1, List.getElem?_cons_succ, List.getElem?_map]
      rw [show (y - hp.length - 1 + 1 + σ.length - σ.length) = (y - hp.length - 1) + 1 by omega, List.getElem?_cons_succ]

theorem HSatO.up (h : HSatO ρ ω hp w) (hnd : σ.Nodup) (hin : ∀ x ∈ σ, x < hp.length) (h' : HSatO ρ' ω' (hp1 ++ .abs (frameA σ ω w) :: new) w') (e : Ext (rhoC σ ρ) ρ') (hl : hp1.length = σ.length) (hsz : w.heap.size ≤ w'.heap.size) :
    HSat (ρ ++ ρ'.drop σ.length) (putL hp σ (hp1.map (renB (tau σ hp.length))) ++ .gone :: new.map (renB (tau σ hp.length))) w' ∧ Via (tau σ hp.length) ρ' (ρ ++ ρ'.drop σ.length) := by
  have hN := h.lenh
  have hlen' : ρ'.length = σ.length + 1 + new.length := by rw [← h'.lenh]; simp; omega
  have via : Via (tau σ hp.length) ρ' (ρ ++ ρ'.drop σ.length) := by
    intro x r hr
    have hx := (List.getElem?_eq_some_iff.1 hr).1
    cases hs : σ[x]? with
    | some y =>
      rw [tau_lt hs]
      have hy := hin y (List.mem_of_getElem? hs)
      rw [List.getElem?_append_left (by omega)]
      have hρ : ρ[y]? = some (ρ[y]'(by omega)) := by simp
      have hxs := (List.getElem?_eq_some_iff.1 hs).1
      have : ρ'[x]? = some (ρ[y]'(by omega)) := by
        refine e _ _ ?_
        unfold rhoC
        rw [List.getElem?_append_left (by simpa using hxs), List.getElem?_map, hs]
        simp [hρ]
      rw [hρ, ← this, hr]
    | none =>
      have hxs : σ.length ≤ x := List.getElem?_eq_none_iff.1 hs
      rw [tau_ge hxs, List.getElem?_append_right (by omega), drop_get]
      rw [show σ.length + (hp.length + (x - σ.length) - ρ.length) = x by omega]
      exact hr
  -- the frame's own entry
  have hfr : ω'[σ.length]? = some (restO σ ω) ∧ agree (restO σ ω) w w' := by
    have h1 : ρ'[σ.length]? = some none := e _ _ (by unfold rhoC; simp)
    have h2 : ω'[σ.length]? = some (ω'[σ.length]'(by rw [h'.lenω]; omega)) := by simp
    have h3 : (hp1 ++ Blk.abs (frameA σ ω w) :: new)[σ.length]? = some (.abs (frameA σ ω w)) := by rw [← hl]; simp
    have := h'.sat _ _ _ _ h1 h2 h3 w' (agree.refl _ _)
    rw [this.1] at h2
    exact ⟨h2, this.2⟩
  obtain ⟨hf1, hf2⟩ := hfr
  have getU : ∀ y o, ((List.range (hp.length + (ρ'.length - σ.length))).map (omU σ ω ω' hp.length))[y]? = some o → y < hp.length + (ρ'.length - σ.length) ∧ o = omU σ ω ω' hp.length y := by
    intro y o ho
    rw [List.getElem?_map] at ho
    rcases Nat.lt_or_ge y (hp.length + (ρ'.length - σ.length)) with hy | hy
    · rw [List.getElem?_range hy] at ho; simp at ho; exact ⟨hy, ho.symm⟩
    · rw [List.getElem?_eq_none (by simpa using hy)] at ho; cases ho
  have om' : ∀ x, x < ρ'.length → ω'[x]? = some (ω'.getD x own0) := by
    intro x hx
    have : ω'[x]? = some (ω'[x]'(by rw [h'.lenω]; exact hx)) := by simp
    rw [getD_of this]; exact this
  have om0 : ∀ x, x < hp.length → ω[x]? = some (ω.getD x own0) := by
    intro x hx
    have : ω[x]? = some (ω[x]'(by rw [h.lenω]; omega)) := by simp
    rw [getD_of this]; exact this
  refine ⟨⟨(List.range (hp.length + (ρ'.length - σ.length))).map (omU σ ω ω' hp.length), by simp; omega, by simp [putL_length]; omega, ?_, ?_, ?_⟩, via⟩
  · intro y a o k h1 h2 h3
    obtain ⟨hy, rfl⟩ := getU y o h2
    rcases up_cls h hnd hin h' e hl hy with ⟨x, g1, g2, g3, g4, g5, g6⟩ | ⟨g1, g2, g3, g4, g5⟩ | ⟨g1, g2, g3, g4⟩
    · rw [g4] at h1; rw [g5]; rw [g6] at h3
      cases hk : (hp1 ++ Blk.abs (frameA σ ω w) :: new)[x]? with
      | none => rw [hk] at h3; cases h3
      | some k' =>
        rw [hk] at h3
        simp only [Option.map_some, Option.some.injEq] at h3
        subst h3
        exact (h'.sat x a _ k' h1 (om' x g2) hk).ren via
    · rw [g3] at h1; rw [g4]; rw [g5] at h3
      exact ((h.sat y a _ k h1 (om0 y g1) h3).agree (agree_rest hf2 g2 (om0 y g1))).mono (fun x r hr => (Ext.push ρ _) x r hr)
    · rw [g2] at h1; rw [g3]; rw [g4] at h3
      cases h1; cases h3; rfl
  · intro x y ox oy hx hy b hb
    obtain ⟨lx, rfl⟩ := getU x ox hx
    obtain ⟨ly, rfl⟩ := getU y oy hy
    rcases up_cls h hnd hin h' e hl lx with ⟨x', g1, g2, g3, g4, g5, g6⟩ | ⟨g1, g2, g3, g4, g5⟩ | ⟨g1, g2, g3, g4⟩
    · rw [g5] at hb
      rcases up_cls h hnd hin h' e hl ly with ⟨y', k1, k2, k3, k4, k5, k6⟩ | ⟨k1, k2, k3, k4, k5⟩ | ⟨k1, k2, k3, k4⟩
      · rw [k5]
        have := h'.dis x' y' _ _ (om' x' g2) (om' y' k2) b hb
        exact ⟨fun hb' => by have := this.1 hb'; subst this; rw [← g3, ← k3], this.2⟩
      · rw [k4]
        have := h'.dis x' σ.length _ _ (om' x' g2) hf1 b hb
        refine ⟨fun hb' => absurd (this.1 (mem_restO.1.2 ⟨y, _, k2, om0 y k1, hb'⟩)) g1, fun hb' => this.2 (mem_restO.2.2 ⟨y, _, k2, om0 y k1, hb'⟩)⟩
      · rw [k3]; simp [own0]
    · rw [g4] at hb
      rcases up_cls h hnd hin h' e hl ly with ⟨y', k1, k2, k3, k4, k5, k6⟩ | ⟨k1, k2, k3, k4, k5⟩ | ⟨k1, k2, k3, k4⟩
      · rw [k5]
        have := h'.dis σ.length y' _ _ hf1 (om' y' k2) b (mem_restO.1.2 ⟨x, _, g2, om0 x g1, hb⟩)
        exact ⟨fun hb' => absurd (this.1 hb').symm k1, this.2⟩
      · rw [k4]
        exact h.dis x y _ _ (om0 x g1) (om0 y k1) b hb
      · rw [k3]; simp [own0]
    · rw [g3] at hb; simp [own0] at hb
  · intro x ox hx b hb
    obtain ⟨lx, rfl⟩ := getU x ox hx
    rcases up_cls h hnd hin h' e hl lx with ⟨x', g1, g2, g3, g4, g5, g6⟩ | ⟨g1, g2, g3, g4, g5⟩ | ⟨g1, g2, g3, g4⟩
    · rw [g5] at hb; exact h'.bnd x' _ (om' x' g2) b hb
    · rw [g4] at hb; exact Nat.lt_of_lt_of_le (h.bnd x _ (om0 x g1) b hb) hsz
    · rw [g3] at hb; simp [own0] at hb
end

/-- A contract with one outcome: whatever else there is (F) is left as it is. -/
structure Spec1 (C : Kit) (f : Nat) (args : List SV) (hp0 : List Blk) (q1 : Bool) (v1 : SV) (hp1 new : List Blk) : Prop where
  len : hp1.length = hp0.length
  out : ∀ F, OkCall C f args (hp0 ++ [.abs F]) fun q v hp' => q = q1 ∧ v = v1 ∧ hp' = hp1 ++ .abs F :: new

def preL (τ : Nat → Nat) (hp : List Blk) : List Nat → List Blk → Prop
  | [], l => match l with
    | [] => True
    | _ :: _ => False
  | x :: σ, l => match l with
    | [] => False
    | k0 :: r => match hp[x]? with
      | some k => leB k (renB τ k0) ∧ preL τ hp σ r
      | none => False
theorem preL_sound {τ : Nat → Nat} {hp : List Blk} : ∀ {σ : List Nat} {l : List Blk}, preL τ hp σ l → l.length = σ.length ∧ ∀ (i x : Nat), σ[i]? = some x → ∃ k k0, hp[x]? = some k ∧ l[i]? = some k0 ∧ leB k (renB τ k0)
  | [], [], h => ⟨rfl, fun i x hx => by simp at hx⟩
  | [], _ :: _, h => (show False from h).elim
  | x :: σ, [], h => (show False from h).elim
  | x :: σ, k0 :: r, h => by
    unfold preL at h
    simp only at h
    split at h
    · rename_i k hk
      obtain ⟨h1, h2⟩ := preL_sound h.2
      refine ⟨by simp [h1], fun i y hy => ?_⟩
      cases i with
      | zero => simp at hy; subst hy; exact ⟨k, k0, hk, rfl, h.1⟩
      | succ i => simp at hy; obtain ⟨a, b, e⟩ := h2 i y hy; exact ⟨a, b, by simpa using e⟩
    · exact h.elim

/-- A call by contract. -/
theorem OkCall.by_spec {C : Kit} {f : Nat} {args0 : List SV} {hp0 hp1 new : List Blk} {q1 : Bool} {v1 : SV} (hs : Spec1 C f args0 hp0 q1 v1 hp1 new) (σ : List Nat) (hnd : σ.Nodup)
    {args : List SV} {hp : List Blk} {K : Bool → SV → List Blk → Prop} (hargs : leL args (renL (tau σ hp.length) args0)) (hpre : preL (tau σ hp.length) hp σ hp0)
    (hK : K q1 (ren (tau σ hp.length) v1) (putL hp σ (hp1.map (renB (tau σ hp.length))) ++ .gone :: new.map (renB (tau σ hp.length)))) : OkCall C f args hp K := by
  obtain ⟨p1, p2⟩ := preL_sound hpre
  refine ⟨(hs.out fun _ _ _ => True).ok, fun ρ w vals hd hsat => ?_⟩
  obtain ⟨ω, h⟩ := hsat
  obtain ⟨g1, g2⟩ := h.sub p1 hnd p2
  refine ((hs.out (frameA σ ω w)).out (rhoC σ ρ) w vals ((leL.denT hd hargs).back g2) ⟨_, g1⟩).mono ?_
  rintro e w' ⟨q, ρ', v, c, hp', rfl, k1, k2, ⟨ω', k3⟩, k4, k5, rfl, rfl, rfl⟩
  have hin : ∀ x ∈ σ, x < hp.length := by
    intro x hx
    obtain ⟨i, hi, hxi⟩ := List.getElem_of_mem hx
    obtain ⟨k, k0, e1, _⟩ := p2 i x (by rw [List.getElem?_eq_getElem hi, hxi])
    exact (List.getElem?_eq_some_iff.1 e1).1
  obtain ⟨u1, u2⟩ := h.up hnd hin k3 k1 (by rw [hs.len, p1]) k4.size
  exact ⟨_, _, _, _, _, rfl, Ext.push ρ _, k2.ren u2, u1, k4, k5, hK⟩
end
end Go.Vex
