/-
  VEX, part 16: saying less of a state: resources dropped, slots dropped, literals forgotten.
-/
import Derived.Test.YtkljgpepogkgdaaDoorV15
set_option linter.unusedSimpArgs false
namespace Go.Vex
set_option linter.unusedVariables false
noncomputable section

def rhoS (σ : List Nat) (ρ : Rho) : Rho := σ.map (fun x => (ρ[x]?).getD none)
theorem HSat.sel {ρ : Rho} {hp hp0 : List Blk} {w : World} {σ : List Nat} (hs : HSat ρ hp w) (hnd : σ.Nodup) (hpre : preL (tau σ hp.length) hp σ hp0) :
    HSat (rhoS σ ρ) hp0 w ∧ Back (tau σ hp.length) ρ (rhoS σ ρ) := by
  obtain ⟨ω, h⟩ := hs
  obtain ⟨hσ, hpre⟩ := preL_sound hpre
  have hback : Back (tau σ hp.length) ρ (rhoS σ ρ) := by
    intro x r hr
    cases hs : σ[x]? with
    | some y =>
      rw [tau_lt hs] at hr
      unfold rhoS
      rw [List.getElem?_map, hs]
      simp [hr]
    | none =>
      have hx : σ.length ≤ x := List.getElem?_eq_none_iff.1 hs
      rw [tau_ge hx, h.lenh] at hr
      have := (List.getElem?_eq_some_iff.1 hr).1
      omega
  have hw : ∀ (i x : Nat), σ[i]? = some x → ∃ a o, ρ[x]? = some a ∧ ω[x]? = some o := by
    intro i x hx
    obtain ⟨k, k0, h1, _⟩ := hpre i x hx
    have hlt := (List.getElem?_eq_some_iff.1 h1).1
    exact ⟨ρ[x]'(by rw [← h.lenh]; exact hlt), ω[x]'(by rw [h.lenω, ← h.lenh]; exact hlt), by simp, by simp⟩
  have at' : ∀ {α : Type} (f : Nat → α) (x : Nat) (r : α), (σ.map f)[x]? = some r → ∃ y, σ[x]? = some y ∧ r = f y := by
    intro α f x r h
    rw [List.getElem?_map] at h
    cases hs : σ[x]? with
    | none => rw [hs] at h; cases h
    | some y => rw [hs] at h; simp at h; exact ⟨y, rfl, h.symm⟩
  refine ⟨⟨σ.map (fun x => ω.getD x own0), by simp [rhoS], by simp [rhoS, hσ], ?_, ?_, ?_⟩, hback⟩
  · intro x a o k h1 h2 h3
    obtain ⟨y, hy, ha⟩ := at' _ _ _ h1
    obtain ⟨y', hy', ho⟩ := at' _ _ _ h2
    rw [hy] at hy'; cases hy'
    obtain ⟨a', o', ea, eo⟩ := hw x y hy
    obtain ⟨k', k0, e1, e2, e3⟩ := hpre x y hy
    rw [ea] at ha; simp at ha; subst ha
    rw [getD_of eo] at ho; subst ho
    rw [e2] at h3
    cases h3
    exact (e3.sat (h.sat y _ _ _ ea eo e1)).back hback
  · intro x y ox oy hx hy b hb
    obtain ⟨x', hx', ex⟩ := at' _ _ _ hx
    obtain ⟨y', hy', ey⟩ := at' _ _ _ hy
    obtain ⟨_, o1, _, e1⟩ := hw x x' hx'
    rw [getD_of e1] at ex; subst ex
    obtain ⟨_, o2, _, e2⟩ := hw y y' hy'
    rw [getD_of e2] at ey; subst ey
    have := h.dis x' y' _ _ e1 e2 b hb
    exact ⟨fun h' => by have := this.1 h'; subst this; exact nodup_eq hnd hx' hy', this.2⟩
  · intro x ox hx b hb
    obtain ⟨x', hx', ex⟩ := at' _ _ _ hx
    obtain ⟨_, o1, _, e1⟩ := hw x x' hx'
    rw [getD_of e1] at ex; subst ex
    exact h.bnd x' _ e1 b hb

/-- The first resources keep their names. -/
def idPre (σ : List Nat) : Nat → Bool
  | 0 => true
  | n + 1 => (σ[n]? == some n) && idPre σ n
theorem idPre_sound {σ : List Nat} : ∀ {n x : Nat}, idPre σ n = true → x < n → σ[x]? = some x
  | n + 1, x, h, hx => by
    unfold idPre at h
    simp only [Bool.and_eq_true, beq_iff_eq] at h
    rcases Nat.lt_succ_iff_lt_or_eq.1 hx with hx | hx
    · exact idPre_sound h.2 hx
    · subst hx; exact h.1
theorem Ext.sel {σ : List Nat} {ρ0 ρ : Rho} {n : Nat} (e : Ext ρ0 ρ) (hn : ρ0.length = n) (h : idPre σ n = true) : Ext ρ0 (rhoS σ ρ) := by
  intro x r hr
  have hx := (List.getElem?_eq_some_iff.1 hr).1
  unfold rhoS
  rw [List.getElem?_map, idPre_sound h (by omega)]
  simp [e x r hr]

def preF (τ : Nat → Nat) (fr : Fr) : Fr → Prop
  | [] => True
  | (t, v') :: r => (match look fr t with
    | some v => leV v (ren τ v')
    | none => False) ∧ preF τ fr r
theorem preF_sound {τ : Nat → Nat} {fr : Fr} : ∀ {fr' : Fr} {t : Nat} {v' : SV}, preF τ fr fr' → look fr' t = some v' → ∃ v, look fr t = some v ∧ leV v (ren τ v')
  | [], t, v', h, hl => by simp [look] at hl
  | (s, u) :: r, t, v', h, hl => by
    unfold look at hl
    split at hl
    · rename_i e; subst e; cases hl
      have := h.1
      split at this
      · exact ⟨_, ‹_›, this⟩
      · exact this.elim
    · exact preF_sound h.2 hl

/-- The second state says no more than the first. -/
structure LeSt (n0 : Nat) (q : Bool) (st : St) (q' : Bool) (st' : St) : Prop where
  out : ∃ σ : List Nat, σ.Nodup ∧ idPre σ n0 = true ∧ (q' = true → q = true) ∧ preF (tau σ st.hp.length) st.fr st'.fr ∧ preL (tau σ st.hp.length) st.hp σ st'.hp
theorem LeSt.sat {E : Env} {n0 : Nat} {q q' : Bool} {st st' : St} (h : LeSt n0 q st q' st') (hn : E.ρ0.length = n0) {a : Act} {w : World} (hs : SSat E q st a w) : SSat E q' st' a w := by
  obtain ⟨σ, h1, h2, h3, h4, h5⟩ := h.out
  obtain ⟨ρ, g1, g2, g3, g4, g5⟩ := hs
  obtain ⟨k1, k2⟩ := g3.sel h1 h5
  refine ⟨rhoS σ ρ, g1.sel hn h2, ⟨g2.size, g2.defers, fun t v' hl => ?_⟩, k1, g4, fun e => g5 (h3 e)⟩
  obtain ⟨v, e1, e2⟩ := preF_sound h4 hl
  exact Den.back' k2 (leV.den (g2.val t v e1) e2) _ rfl

theorem Ok.weak {C : Kit} {nt n0 : Nat} {c : Code} {q q' : Bool} {st st' : St} {Q : Bool → Ex → St → Prop} (hl : LeSt n0 q st q' st') (h : Ok C nt n0 c q' st' Q) : Ok C nt n0 c q st Q :=
  ⟨fun E a w h1 h2 hs => h.out E a w h1 h2 (hl.sat h2 hs)⟩
theorem OkLoop.weak {C : Kit} {nt n0 : Nat} {c : Code} {q q' : Bool} {st st' : St} {Q : Bool → Ex → St → Prop} (hl : LeSt n0 q st q' st') (h : OkLoop C nt n0 c q' st' Q) : OkLoop C nt n0 c q st Q :=
  ⟨fun E a w h1 h2 hs => h.out E a w h1 h2 (hl.sat h2 hs)⟩

/-- What is handed back says no more. -/
structure LeOut (n0 : Nat) (q : Bool) (v : SV) (hp : List Blk) (q' : Bool) (v' : SV) (hp' : List Blk) : Prop where
  out : ∃ σ : List Nat, σ.Nodup ∧ idPre σ n0 = true ∧ (q' = true → q = true) ∧ leV v (ren (tau σ hp.length) v') ∧ preL (tau σ hp.length) hp σ hp'
theorem OkCall.out' {C : Kit} {f : Nat} {args : List SV} {hp : List Blk} {K : Bool → SV → List Blk → Prop}
    (h : OkCall C f args hp fun q v hp' => ∃ q1 v1 hp1, LeOut hp.length q v hp' q1 v1 hp1 ∧ K q1 v1 hp1) : OkCall C f args hp K := by
  refine ⟨h.ok, fun ρ w vals hd hs => (h.out ρ w vals hd hs).mono ?_⟩
  rintro e w' ⟨q, ρ', v, c, hp', rfl, k1, k2, k3, k4, k5, q1, v1, hp1, hl, hK⟩
  obtain ⟨σ, h1, h2, h3, h4, h5⟩ := hl.out
  obtain ⟨g1, g2⟩ := k3.sel h1 h5
  exact ⟨q1, rhoS σ ρ', v1, c, hp1, rfl, k1.sel hs.len.symm h2, Den.back' g2 (leV.den k2 h4) _ rfl, g1, k4, fun e => k5 (h3 e), hK⟩

/-- A contract with one outcome, from a walk. -/
theorem Spec1.mk' {C : Kit} {f : Nat} {args : List SV} {hp0 : List Blk} {q1 : Bool} {v1 : SV} {hp1 new : List Blk} (hl : hp1.length = hp0.length)
    (h : ∀ F, OkCall C f args (hp0 ++ [.abs F]) fun q v hp' => LeOut (hp0.length + 1) q v hp' q1 v1 (hp1 ++ .abs F :: new)) : Spec1 C f args hp0 q1 v1 hp1 new := by
  refine ⟨hl, fun F => OkCall.out' ⟨(h F).ok, fun ρ w vals hd hs => ((h F).out ρ w vals hd hs).mono ?_⟩⟩
  rintro e w' ⟨q, ρ', v, c, hp', rfl, k1, k2, k3, k4, k5, hl⟩
  exact ⟨q, ρ', v, c, hp', rfl, k1, k2, k3, k4, k5, q1, v1, _, by simpa using hl, rfl, rfl, rfl⟩

theorem leV_refl (v : SV) : leV v v := by
  refine SV.rec (motive_1 := fun v => leV v v) (motive_2 := fun l => leL l l) ?_ ?_ ?_ ?_ ?_ ?_ ?_ ?_ ?_ ?_ ?_ ?_ ?_ ?_ ?_ ?_ ?_ ?_ ?_ ?_ ?_ v
  all_goals (intros; simp_all [leV, leL])
theorem leL_refl : ∀ l : List SV, leL l l
  | [] => by simp [leL]
  | v :: r => by rw [leL]; exact ⟨leV_refl v, leL_refl r⟩
theorem leB_refl (k : Blk) : leB k k := by
  cases k <;> simp [leB, leL_refl]
def pickL (hp : List Blk) : List Nat → Option (List Blk)
  | [] => some []
  | x :: σ => match hp[x]? with
    | some k => match pickL hp σ with
      | some l => some (k :: l)
      | none => none
    | none => none
theorem preL_of_pick {τ : Nat → Nat} {hp : List Blk} : ∀ {σ : List Nat} {l : List Blk}, pickL hp σ = some (l.map (renB τ)) → preL τ hp σ l
  | [], [], _ => trivial
  | [], k :: r, h => by simp [pickL] at h
  | x :: σ, l, h => by
    unfold pickL at h
    split at h
    · rename_i k hk
      split at h
      · rename_i m hm
        cases l with
        | nil => simp at h
        | cons k0 r =>
          simp only [List.map_cons, Option.some.injEq, List.cons.injEq] at h
          obtain ⟨h1, h2⟩ := h
          subst h1
          unfold preL
          simp only [hk]
          exact ⟨leB_refl _, preL_of_pick (by rw [hm, h2])⟩
      · cases h
    · cases h
theorem LeOut.eq {n0 : Nat} {q : Bool} {v : SV} {hp : List Blk} {q' : Bool} {v' : SV} {hp' : List Blk} (σ : List Nat) (h1 : σ.Nodup) (h2 : idPre σ n0 = true) (h3 : q' = true → q = true)
    (h4 : v = ren (tau σ hp.length) v') (h5 : pickL hp σ = some (hp'.map (renB (tau σ hp.length)))) : LeOut n0 q v hp q' v' hp' :=
  ⟨σ, h1, h2, h3, h4 ▸ leV_refl _, preL_of_pick h5⟩

/-! ### Quiet calls by contract -/
mutual
/-- The value that it is, if it says so. -/
def gnd : SV → Option Value
  | .i k n => some (.int k n.val)
  | .b x => some (.bool x.val)
  | .str s => some (.string s)
  | .nilp => some (.pointer none)
  | .nilslc => some (.slice none 0 0)
  | .nilfn => some .nilFunc
  | .nilifc => some .nilIface
  | .nilmap => some (.map none)
  | .tup l => match gndL l with
    | some vs => some (.tuple vs.toArray)
    | none => none
  | .fn f a b => match gndL a with
    | some vs => match gndL b with
      | some us => some (.func f vs.toArray us.toArray)
      | none => none
    | none => none
  | _ => none
def gndL : List SV → Option (List Value)
  | [] => some []
  | v :: r => match gnd v with
    | some c => match gndL r with
      | some cs => some (c :: cs)
      | none => none
    | none => none
end
theorem gnd_sound (ρ : Rho) : (∀ v c, gnd v = some c → Den ρ v c ∧ ∀ ρ' c', Den ρ' v c' → c' = c) := by
  intro v
  refine SV.rec (motive_1 := fun v => ∀ c, gnd v = some c → Den ρ v c ∧ ∀ ρ' c', Den ρ' v c' → c' = c)
    (motive_2 := fun l => ∀ cs, gndL l = some cs → DenT ρ l cs ∧ ∀ ρ' cs', DenT ρ' l cs' → cs' = cs) ?_ ?_ ?_ ?_ ?_ ?_ ?_ ?_ ?_ ?_ ?_ ?_ ?_ ?_ ?_ ?_ ?_ ?_ ?_ ?_ ?_ v
  · intro k n c h; rw [gnd] at h; cases h; exact ⟨.i rfl, fun ρ' c' hc => by cases hc with | i h => exact h⟩
  · intro x c h; rw [gnd] at h; cases h; exact ⟨.b rfl, fun ρ' c' hc => by cases hc with | b h => exact h⟩
  · intro x c h; rw [gnd] at h; cases h; exact ⟨.str rfl, fun ρ' c' hc => by cases hc with | str h => exact h⟩
  · intro _ _ c h; simp [gnd] at h
  · intro c h; rw [gnd] at h; cases h; exact ⟨.nilp rfl, fun ρ' c' hc => by cases hc with | nilp h => exact h⟩
  · intro _ _ _ _ _ _ c h; simp [gnd] at h
  · intro c h; rw [gnd] at h; cases h; exact ⟨.nilslc rfl, fun ρ' c' hc => by cases hc with | nilslc h => exact h⟩
  · intro _ _ c h; simp [gnd] at h
  · intro l ih c h
    rw [gnd] at h
    split at h
    · rename_i vs hvs
      cases h
      obtain ⟨h1, h2⟩ := ih vs hvs
      exact ⟨.tup vs rfl h1, fun ρ' c' hc => by cases hc with | tup us h h3 => rw [h, h2 _ _ h3]⟩
    · cases h
  · intro f a b iha ihb c h
    rw [gnd] at h
    split at h
    · rename_i vs hvs
      split at h
      · rename_i us hus
        cases h
        obtain ⟨h1, h2⟩ := iha vs hvs
        obtain ⟨h3, h4⟩ := ihb us hus
        exact ⟨.fn vs us rfl h1 h3, fun ρ' c' hc => by cases hc with | fn vs' us' h k1 k2 => rw [h, h2 _ _ k1, h4 _ _ k2]⟩
      · cases h
    · cases h
  · intro c h; rw [gnd] at h; cases h; exact ⟨.nilfn rfl, fun ρ' c' hc => by cases hc with | nilfn h => exact h⟩
  · intro _ _ _ c h; simp [gnd] at h
  · intro c h; rw [gnd] at h; cases h; exact ⟨.nilifc rfl, fun ρ' c' hc => by cases hc with | nilifc h => exact h⟩
  · intro _ c h; simp [gnd] at h
  · intro c h; rw [gnd] at h; cases h; exact ⟨.nilmap rfl, fun ρ' c' hc => by cases hc with | nilmap h => exact h⟩
  · intro _ c h; simp [gnd] at h
  · intro _ _ _ c h; simp [gnd] at h
  · intro _ _ _ _ c h; simp [gnd] at h
  · intro _ _ c h; simp [gnd] at h
  · intro cs h; rw [gndL] at h; cases h; exact ⟨.nil rfl, fun ρ' c' hc => by cases hc with | nil h => exact h⟩
  · intro v r ihv ihr cs h
    rw [gndL] at h
    split at h
    · rename_i c hc
      split at h
      · rename_i ds hds
        cases h
        obtain ⟨h1, h2⟩ := ihv c hc
        obtain ⟨h3, h4⟩ := ihr ds hds
        exact ⟨.cons _ _ rfl h1 h3, fun ρ' c' hc => by cases hc with | cons c c2 h k1 k2 => rw [h, h2 _ _ k1, h4 _ _ k2]⟩
      · cases h
    · cases h

theorem QCall.of_call {C : Kit} {f : Nat} {args : List SV} {hp : List Blk} {K : SV → Prop} (v1 : SV) (hg : (gnd v1).isSome = true)
    (h : OkCall C f args hp fun q v _ => q = true ∧ leV v v1) (hK : K v1) : QCall C f args hp K := by
  obtain ⟨c1, hc1⟩ := Option.isSome_iff_exists.1 hg
  refine ⟨h.ok, fun ρ w vals hd hs => ⟨v1, c1, ((gnd_sound ρ) v1 c1 hc1).1, hK, fun x hx => ?_⟩⟩
  refine (h.out ρ x vals hd (hs.heap hx.1)).mono ?_
  rintro e w' ⟨q, ρ', v, c, hp', rfl, k1, k2, k3, k4, k5, rfl, k6⟩
  obtain ⟨n, hn⟩ := k5 rfl
  refine ⟨?_, n, hn⟩
  rw [((gnd_sound ρ) v1 c1 hc1).2 _ _ (leV.den k2 k6)]

/-! ### What the walk stops at -/
theorem Br.mk {t : Bool} {A B : Unit → Prop} (h1 : t = true → A ()) (h2 : t = false → B ()) : Br t A B := by rw [Br_eq]; exact ⟨h1, h2⟩
theorem Br.yes {t : Bool} {A B : Unit → Prop} (h : t = true) (h1 : A ()) : Br t A B := Br.mk (fun _ => h1) fun e => by rw [h] at e; cases e
theorem Br.no {t : Bool} {A B : Unit → Prop} (h : t = false) (h1 : B ()) : Br t A B := Br.mk (fun e => by rw [h] at e; cases e) fun _ => h1
theorem eqN.rfl (n : Nat) : eqN n n := by rw [eqN_eq]
theorem eqN.mk {a b : Nat} (h : a = b) : eqN a b := by rw [eqN_eq]; exact h
theorem apOk.mk {n b : Nat} (h1 : n * b ≤ 140737488355328) (h2 : n ≤ 140737488355328) : apOk n b := by rw [apOk_eq]; exact ⟨h1, h2⟩
theorem AllN.mk {n : Nat} {K : Nat → Prop} (h : ∀ c, n ≤ c → K c) : AllN n K := by rw [AllN_eq]; exact h
theorem inR.mk {i : Int} {n : Nat} (h1 : 0 ≤ i) (h2 : i < n) : inR i n := by rw [inR_eq]; exact ⟨h1, h2⟩
theorem leR.mk {i : Int} {n : Nat} (h1 : 0 ≤ i) (h2 : i ≤ n) : leR i n := by rw [leR_eq]; exact ⟨h1, h2⟩
theorem nLt.mk {a b : Nat} (h : a < b) : nLt a b := by rw [nLt_eq]; exact h
theorem nLe.mk {a b : Nat} (h : a ≤ b) : nLe a b := by rw [nLe_eq]; exact h
theorem neZ.mk {a : Int} (h : a ≠ 0) : neZ a := by rw [neZ_eq]; exact h
theorem geZ.mk {a : Int} (h : 0 ≤ a) : geZ a := by rw [geZ_eq]; exact h

theorem tAnd {a b : Bool} (h1 : a = true) (h2 : b = true) : andB a b = true := by rw [andB_eq, h1, h2]; rfl
theorem tEqI (a : Int) : eqI a a = true := by rw [eqI_eq]; simp
theorem tEqL (a : List Int) : eqL a a = true := by rw [eqL_eq]; simp
theorem tEqB (a : Bool) : eqB a a = true := by rw [eqB_eq]; simp
end
end Go.Vex
