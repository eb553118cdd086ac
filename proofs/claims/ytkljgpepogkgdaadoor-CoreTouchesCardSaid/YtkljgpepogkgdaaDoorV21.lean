/-
  VEX, part 21: resources folded into one, and unfolded; weakening of what is there.
-/
import Derived.Test.YtkljgpepogkgdaaDoorV16
set_option linter.unusedSimpArgs false
namespace Go.Vex
set_option linter.unusedVariables false
noncomputable section

/-- Whatever is there by the first says, by the same names, the second too. -/
structure HImp (hp hp' : List Blk) : Prop where
  out : ∀ ρ w, HSat ρ hp w → HSat ρ hp' w
theorem HImp.refl (hp : List Blk) : HImp hp hp := ⟨fun _ _ h => h⟩
theorem HImp.trans {a b c : List Blk} (h : HImp a b) (k : HImp b c) : HImp a c := ⟨fun ρ w x => k.out ρ w (h.out ρ w x)⟩

theorem SSat.imp {E : Env} {q : Bool} {st : St} {hp' : List Blk} {a : Act} {w : World} (h : HImp st.hp hp') (hs : SSat E q st a w) : SSat E q ⟨st.fr, hp'⟩ a w := by
  obtain ⟨ρ, h1, h2, h3, h4, h5⟩ := hs
  exact ⟨ρ, h1, h2, h.out _ _ h3, h4, h5⟩
theorem OkCall.pre {C : Kit} {f : Nat} {args : List SV} {hp hp' : List Blk} {K : Bool → SV → List Blk → Prop} (h : HImp hp hp') (k : OkCall C f args hp' K) : OkCall C f args hp K :=
  ⟨k.ok, fun ρ w vals hd hs => k.out ρ w vals hd (h.out _ _ hs)⟩
theorem OkCall.post {C : Kit} {f : Nat} {args : List SV} {hp : List Blk} {K : Bool → SV → List Blk → Prop}
    (h : OkCall C f args hp fun q v hp' => ∃ hp2, HImp hp' hp2 ∧ K q v hp2) : OkCall C f args hp K := by
  refine ⟨h.ok, fun ρ w vals hd hs => (h.out ρ w vals hd hs).mono ?_⟩
  rintro e w' ⟨q, ρ', v, c, hp', rfl, k1, k2, k3, k4, k5, hp2, hi, hK⟩
  exact ⟨q, ρ', v, c, hp2, rfl, k1, k2, hi.out _ _ k3, k4, k5, hK⟩
theorem OkCall.cons {C : Kit} {f : Nat} {args : List SV} {hp : List Blk} {K K' : Bool → SV → List Blk → Prop}
    (h : OkCall C f args hp K) (hk : ∀ q v hp', K q v hp' → K' q v hp') : OkCall C f args hp K' := by
  refine ⟨h.ok, fun ρ w vals hd hs => (h.out ρ w vals hd hs).mono ?_⟩
  rintro e w' ⟨q, ρ', v, c, hp', rfl, k1, k2, k3, k4, k5, hK⟩
  exact ⟨q, ρ', v, c, hp', rfl, k1, k2, k3, k4, k5, hk _ _ _ hK⟩
theorem Ok.pre {C : Kit} {nt n0 : Nat} {c : Code} {q : Bool} {fr : Fr} {hp hp' : List Blk} {Q : Bool → Ex → St → Prop} (h : HImp hp hp') (k : Ok C nt n0 c q ⟨fr, hp'⟩ Q) : Ok C nt n0 c q ⟨fr, hp⟩ Q :=
  ⟨fun E a w h1 h2 hs => k.out E a w h1 h2 (hs.imp h)⟩
theorem OkLoop.pre {C : Kit} {nt n0 : Nat} {c : Code} {q : Bool} {fr : Fr} {hp hp' : List Blk} {Q : Bool → Ex → St → Prop} (h : HImp hp hp') (k : OkLoop C nt n0 c q ⟨fr, hp'⟩ Q) : OkLoop C nt n0 c q ⟨fr, hp⟩ Q :=
  ⟨fun E a w h1 h2 hs => k.out E a w h1 h2 (hs.imp h)⟩

theorem Ok.conseq {C : Kit} {nt n0 : Nat} {c : Code} {q : Bool} {st : St} {Q Q' : Bool → Ex → St → Prop} (h : Ok C nt n0 c q st Q) (hQ : ∀ q e s, Q q e s → Q' q e s) : Ok C nt n0 c q st Q' := by
  refine ⟨fun E a w h1 h2 hs => wp_mono (h.out E a w h1 h2 hs) ?_⟩
  intro e a' w' he
  cases e with
  | normal => obtain ⟨q, s, h1, h2⟩ := he; exact ⟨q, s, h1, hQ _ _ _ h2⟩
  | exit id => obtain ⟨q, s, h1, h2⟩ := he; exact ⟨q, s, h1, hQ _ _ _ h2⟩
  | ret => obtain ⟨q, s, h1, h2⟩ := he; exact ⟨q, s, h1, hQ _ _ _ h2⟩
  | goto l => exact he.elim
  | panic ch => exact he.elim
  | outgrown => exact he.elim
/-! ### One resource says less -/
structure BImp (k k' : Blk) : Prop where
  out : ∀ ρ addr o w, BSat ρ addr o w k → BSat ρ addr o w k'
theorem BImp.le {k k' : Blk} (h : leB k k') : BImp k k' := ⟨fun _ _ _ _ hs => leB.sat hs h⟩
theorem BImp.refl (k : Blk) : BImp k k := ⟨fun _ _ _ _ h => h⟩
theorem HImp.at {hp : List Blk} (x : Nat) {k k' : Blk} (hx : hp[x]? = some k) (h : BImp k k') : HImp hp (hp.set x k') := by
  refine ⟨fun ρ w ⟨ω, hs⟩ => ⟨ω, hs.lenω, by simp [hs.lenh], ?_, hs.dis, hs.bnd⟩⟩
  intro y a o k2 h1 h2 h3
  by_cases e : x = y
  · subst e
    have hlt := (List.getElem?_eq_some_iff.1 hx).1
    rw [List.getElem?_set_self hlt] at h3; cases h3
    exact h.out _ _ _ _ (hs.sat x a o k h1 h2 hx)
  · rw [List.getElem?_set_ne e] at h3; exact hs.sat y a o k2 h1 h2 h3
/-- A resource is let go. -/
theorem HImp.drop {hp : List Blk} (x : Nat) : HImp hp (hp.set x .gone) := by
  refine ⟨fun ρ w ⟨ω, hs⟩ => ⟨ω.set x ⟨[], []⟩, by simp [hs.lenω], by simp [hs.lenh], ?_, ?_, ?_⟩⟩
  · intro y a o k2 h1 h2 h3
    by_cases e : x = y
    · subst e
      have hlt : x < hp.length := by have := (List.getElem?_eq_some_iff.1 h3).1; simpa using this
      rw [List.getElem?_set_self hlt] at h3; cases h3
      rw [List.getElem?_set_self (by rw [hs.lenω, ← hs.lenh]; exact hlt)] at h2; cases h2; rfl
    · rw [List.getElem?_set_ne e] at h3 h2; exact hs.sat y a o k2 h1 h2 h3
  · intro y z oy oz h1 h2 b hb
    by_cases e : x = y
    · subst e
      have hlt : x < ω.length := by have := (List.getElem?_eq_some_iff.1 h1).1; simpa using this
      rw [List.getElem?_set_self hlt] at h1; cases h1; simp at hb
    · rw [List.getElem?_set_ne e] at h1
      by_cases e2 : x = z
      · subst e2
        have hlt : x < ω.length := by have := (List.getElem?_eq_some_iff.1 h2).1; simpa using this
        rw [List.getElem?_set_self hlt] at h2; cases h2; simp
      · rw [List.getElem?_set_ne e2] at h2; exact hs.dis y z oy oz h1 h2 b hb
  · intro y oy h1 b hb
    by_cases e : x = y
    · subst e
      have hlt : x < ω.length := by have := (List.getElem?_eq_some_iff.1 h1).1; simpa using this
      rw [List.getElem?_set_self hlt] at h1; cases h1; simp at hb
    · rw [List.getElem?_set_ne e] at h1; exact hs.bnd y oy h1 b hb
/-- A row of one's own is only looked at from now on. -/
theorem HImp.toRo {hp : List Blk} (x : Nat) {T : TypeId} {l : List SV} (hx : hp[x]? = some (.cells T l)) : HImp hp (hp.set x (.ro l)) := by
  refine ⟨fun ρ w ⟨ω, hs⟩ => ?_⟩
  have hlt := (List.getElem?_eq_some_iff.1 hx).1
  have hw : ω[x]? = some (ω[x]'(by rw [hs.lenω, ← hs.lenh]; exact hlt)) := by simp
  generalize hox : ω[x]'(by rw [hs.lenω, ← hs.lenh]; exact hlt) = ox at hw
  have hr : ρ[x]? = some (ρ[x]'(by rw [← hs.lenh]; exact hlt)) := by simp
  obtain ⟨cs, g1, g2⟩ := hs.sat x _ _ _ hr hw hx
  have hfin : ∀ o', BSat ρ (ρ[x]'(by rw [← hs.lenh]; exact hlt)) o' w (.ro l) → o'.own = [] → (∀ b ∈ o'.see, b ∈ ox.own) → HSat ρ (hp.set x (.ro l)) w := by
    intro o' hb ho hsee
    refine ⟨ω.set x o', by simp [hs.lenω], by simp [hs.lenh], ?_, ?_, ?_⟩
    · intro y a o k2 h1 h2 h3
      by_cases e : x = y
      · subst e
        rw [List.getElem?_set_self hlt] at h3; cases h3
        rw [List.getElem?_set_self (by rw [hs.lenω, ← hs.lenh]; exact hlt)] at h2; cases h2
        rw [hr] at h1; cases h1; exact hb
      · rw [List.getElem?_set_ne e] at h3 h2; exact hs.sat y a o k2 h1 h2 h3
    · intro y z oy oz h1 h2 b hb
      by_cases e : x = y
      · subst e
        rw [List.getElem?_set_self (by rw [hs.lenω, ← hs.lenh]; exact hlt)] at h1; cases h1; rw [ho] at hb; simp at hb
      · rw [List.getElem?_set_ne e] at h1
        by_cases e2 : x = z
        · subst e2
          rw [List.getElem?_set_self (by rw [hs.lenω, ← hs.lenh]; exact hlt)] at h2; cases h2
          refine ⟨fun h => by rw [ho] at h; simp at h, fun h => e ?_⟩
          exact ((hs.dis y x oy ox h1 hw b hb).1 (hsee b h)).symm
        · rw [List.getElem?_set_ne e2] at h2; exact hs.dis y z oy oz h1 h2 b hb
    · intro y oy h1 b hb
      by_cases e : x = y
      · subst e
        rw [List.getElem?_set_self (by rw [hs.lenω, ← hs.lenh]; exact hlt)] at h1; cases h1
        rcases hb with hb | hb
        · rw [ho] at hb; simp at hb
        · exact hs.bnd x ox hw b (.inl (hsee b hb))
      · rw [List.getElem?_set_ne e] at h1; exact hs.bnd y oy h1 b hb
  rcases g2 with ⟨rfl, _, rfl⟩ | ⟨b, e1, e2, e3⟩
  · exact hfin ⟨[], []⟩ ⟨[], g1, .inl ⟨rfl, rfl⟩⟩ rfl (by simp)
  · subst e2
    refine hfin ⟨[], [b]⟩ ⟨cs, g1, .inr ⟨b, 0, e1, rfl, ?_⟩⟩ rfl (by simp)
    exact .inr ⟨_, _, _, e3, fun j c hj => by simpa using hj⟩

/-! ### Folding -/
def unionO (ω : List Own) : Own := ⟨ω.flatMap (·.own), ω.flatMap (·.see)⟩
theorem mem_unionO {ω : List Own} {b : Nat} : (b ∈ (unionO ω).own ↔ ∃ o ∈ ω, b ∈ o.own) ∧ (b ∈ (unionO ω).see ↔ ∃ o ∈ ω, b ∈ o.see) := by simp [unionO]
def Pack (l : List Blk) (addr : Option (Nat × Nat)) (o : Own) (w : World) : Prop := ∃ ρ ω, ρ[0]? = some addr ∧ HSatO ρ ω l w ∧ o = unionO ω
/-- Some resources, of such a shape, as one. -/
def AbsP (S : List Blk → Prop) (addr : Option (Nat × Nat)) (o : Own) (w : World) : Prop := ∃ l, S l ∧ Pack l addr o w
abbrev Blk.pk (S : List Blk → Prop) : Blk := .abs (AbsP S)

theorem HSatO.agreeAll {ρ : Rho} {ω : List Own} {hp : List Blk} {w w' : World} (h : HSatO ρ ω hp w) (ha : agree (unionO ω) w w') : HSatO ρ ω hp w' := by
  have ha' : ∀ x o, ω[x]? = some o → agree o w w' := fun x o hx b hb => ha b (by
    rcases hb with hb | hb
    · exact .inl (mem_unionO.1.2 ⟨o, List.mem_of_getElem? hx, hb⟩)
    · exact .inr (mem_unionO.2.2 ⟨o, List.mem_of_getElem? hx, hb⟩))
  refine ⟨h.lenω, h.lenh, fun x a o k h1 h2 h3 => (h.sat x a o k h1 h2 h3).agree (ha' x o h2), h.dis, fun x ox h1 b hb => ?_⟩
  have := h.bnd x ox h1 b hb
  have e := ha' x ox h1 b hb
  rcases Nat.lt_or_ge b w'.heap.size with hlt | hge
  · exact hlt
  · rw [Array.getElem?_eq_none hge, Array.getElem?_eq_getElem this] at e; cases e

theorem HSatO.sel {ρ : Rho} {ω : List Own} {hp hp0 : List Blk} {w : World} {σ : List Nat} (h : HSatO ρ ω hp w) (hnd : σ.Nodup) (hpre : preL (tau σ hp.length) hp σ hp0) :
    HSatO (rhoS σ ρ) (σ.map (fun x => ω.getD x own0)) hp0 w := by
  obtain ⟨hσ, hpre⟩ := preL_sound hpre
  have hback : Back (tau σ hp.length) ρ (rhoS σ ρ) := by
    intro x r hr
    cases hs : σ[x]? with
    | some y =>
      rw [tau_lt hs] at hr
      unfold rhoS
      rw [List.getElem?_map, hs]
      simp [hr]
    | none =>
      have hx : σ.length ≤ x := List.getElem?_eq_none_iff.1 hs
      rw [tau_ge hx, h.lenh] at hr
      have := (List.getElem?_eq_some_iff.1 hr).1
      omega
  have hw : ∀ (i x : Nat), σ[i]? = some x → ∃ a o, ρ[x]? = some a ∧ ω[x]? = some o := by
    intro i x hx
    obtain ⟨k, k0, h1, _⟩ := hpre i x hx
    have hlt := (List.getElem?_eq_some_iff.1 h1).1
    exact ⟨ρ[x]'(by rw [← h.lenh]; exact hlt), ω[x]'(by rw [h.lenω, ← h.lenh]; exact hlt), by simp, by simp⟩
  have at' : ∀ {α : Type} (f : Nat → α) (x : Nat) (r : α), (σ.map f)[x]? = some r → ∃ y, σ[x]? = some y ∧ r = f y := by
    intro α f x r h
    rw [List.getElem?_map] at h
    cases hs : σ[x]? with
    | none => rw [hs] at h; cases h
    | some y => rw [hs] at h; simp at h; exact ⟨y, rfl, h.symm⟩
  refine ⟨by simp [rhoS], by simp [rhoS, hσ], ?_, ?_, ?_⟩
  · intro x a o k h1 h2 h3
    obtain ⟨y, hy, ha⟩ := at' _ _ _ h1
    obtain ⟨y', hy', ho⟩ := at' _ _ _ h2
    rw [hy] at hy'; cases hy'
    obtain ⟨a', o', ea, eo⟩ := hw x y hy
    obtain ⟨k', k0, e1, e2, e3⟩ := hpre x y hy
    rw [ea] at ha; simp at ha; subst ha
    rw [getD_of eo] at ho; subst ho
    rw [e2] at h3
    cases h3
    exact (e3.sat (h.sat y _ _ _ ea eo e1)).back hback
  · intro x y ox oy hx hy b hb
    obtain ⟨x', hx', ex⟩ := at' _ _ _ hx
    obtain ⟨y', hy', ey⟩ := at' _ _ _ hy
    obtain ⟨_, o1, _, e1⟩ := hw x x' hx'
    rw [getD_of e1] at ex; subst ex
    obtain ⟨_, o2, _, e2⟩ := hw y y' hy'
    rw [getD_of e2] at ey; subst ey
    have := h.dis x' y' _ _ e1 e2 b hb
    exact ⟨fun h' => by have := this.1 h'; subst this; exact nodup_eq hnd hx' hy', this.2⟩
  · intro x ox hx b hb
    obtain ⟨x', hx', ex⟩ := at' _ _ _ hx
    obtain ⟨_, o1, _, e1⟩ := hw x x' hx'
    rw [getD_of e1] at ex; subst ex
    exact h.bnd x' _ e1 b hb

def goneL (hp : List Blk) : List Nat → List Blk
  | [] => hp
  | y :: r => goneL (hp.set y .gone) r
theorem goneL_length : ∀ (ys : List Nat) (hp : List Blk), (goneL hp ys).length = hp.length
  | [], hp => rfl
  | y :: r, hp => by unfold goneL; rw [goneL_length r]; simp
theorem goneL_out : ∀ (ys : List Nat) (hp : List Blk) (z : Nat), z ∉ ys → (goneL hp ys)[z]? = hp[z]?
  | [], hp, z, _ => rfl
  | y :: r, hp, z, h => by
    simp only [List.mem_cons, not_or] at h
    unfold goneL; rw [goneL_out r _ z h.2, List.getElem?_set_ne (Ne.symm h.1)]
theorem goneL_in : ∀ (ys : List Nat) (hp : List Blk) (z : Nat), z ∈ ys → z < hp.length → (goneL hp ys)[z]? = some .gone
  | y :: r, hp, z, h, hl => by
    unfold goneL
    by_cases hz : z ∈ r
    · exact goneL_in r _ z hz (by simpa using hl)
    · rw [goneL_out r _ z hz]
      simp only [List.mem_cons, hz, or_false] at h
      subst h; rw [List.getElem?_set_self hl]

theorem HImp.fold {hp : List Blk} {S : List Blk → Prop} (x : Nat) (ys : List Nat) (l : List Blk) (hnd : (x :: ys).Nodup) (hpre : preL (tau (x :: ys) hp.length) hp (x :: ys) l) (hS : S l) :
    HImp hp (goneL (hp.set x (.abs (AbsP S))) ys) := by
  refine ⟨fun ρ w ⟨ω, h⟩ => ?_⟩
  have hsel := h.sel hnd hpre
  have hps := preL_sound hpre
  have hlt : ∀ z ∈ x :: ys, z < hp.length := by
    intro z hz
    obtain ⟨i, hi, e⟩ := List.getElem_of_mem hz
    obtain ⟨k, k0, e1, _⟩ := hps.2 i z (by rw [List.getElem?_eq_getElem hi, e])
    exact (List.getElem?_eq_some_iff.1 e1).1
  have hx := hlt x (by simp)
  have hnx : x ∉ ys := (List.nodup_cons.1 hnd).1
  have om0 : ∀ z, z < hp.length → ω[z]? = some (ω.getD z own0) := by
    intro z hz
    have : ω[z]? = some (ω[z]'(by rw [h.lenω, ← h.lenh]; exact hz)) := by simp
    rw [getD_of this]; exact this
  let u := unionO ((x :: ys).map fun z => ω.getD z own0)
  have hu1 : ∀ b, b ∈ u.own ↔ ∃ z ∈ x :: ys, b ∈ (ω.getD z own0).own := fun b => by
    rw [mem_unionO.1]; simp only [List.mem_map]
    exact ⟨fun ⟨o, ⟨z, hz, e⟩, hb⟩ => ⟨z, hz, by rw [e]; exact hb⟩, fun ⟨z, hz, hb⟩ => ⟨_, ⟨z, hz, rfl⟩, hb⟩⟩
  have hu2 : ∀ b, b ∈ u.see ↔ ∃ z ∈ x :: ys, b ∈ (ω.getD z own0).see := fun b => by
    rw [mem_unionO.2]; simp only [List.mem_map]
    exact ⟨fun ⟨o, ⟨z, hz, e⟩, hb⟩ => ⟨z, hz, by rw [e]; exact hb⟩, fun ⟨z, hz, hb⟩ => ⟨_, ⟨z, hz, rfl⟩, hb⟩⟩
  let g : Nat → Own := fun y => if y = x then u else if y ∈ ys then own0 else ω.getD y own0
  have get : ∀ y o, ((List.range hp.length).map g)[y]? = some o → y < hp.length ∧ o = g y := by
    intro y o ho
    rw [List.getElem?_map] at ho
    rcases Nat.lt_or_ge y hp.length with hy | hy
    · rw [List.getElem?_range hy] at ho; simp at ho; exact ⟨hy, ho.symm⟩
    · rw [List.getElem?_eq_none (by simpa using hy)] at ho; cases ho
  refine ⟨(List.range hp.length).map g, by simp [h.lenh], by rw [goneL_length]; simp [h.lenh], ?_, ?_, ?_⟩
  · intro y a o k h1 h2 h3
    obtain ⟨hy, rfl⟩ := get y o h2
    by_cases e : y = x
    · subst e
      rw [goneL_out ys _ _ hnx, List.getElem?_set_self hx] at h3
      cases h3
      show BSat ρ a (g y) w (.abs (AbsP S))
      have eg : g y = u := by simp [g]
      rw [eg]
      intro w' hw'
      refine ⟨l, hS, rhoS (y :: ys) ρ, _, ?_, hsel.agreeAll hw', rfl⟩
      simp [rhoS, h1]
    · by_cases e2 : y ∈ ys
      · rw [goneL_in ys _ _ e2 (by simpa using hy)] at h3
        cases h3
        show g y = own0
        simp [g, e, e2]
      · rw [goneL_out ys _ _ e2, List.getElem?_set_ne (Ne.symm e)] at h3
        have eg : g y = ω.getD y own0 := by simp [g, e, e2]
        rw [eg]
        exact h.sat y a _ k h1 (om0 y hy) h3
  · intro y z oy oz hy hz b hb
    obtain ⟨ly, rfl⟩ := get y oy hy
    obtain ⟨lz, rfl⟩ := get z oz hz
    have src : ∀ y, y < hp.length → ∀ b, (b ∈ (g y).own → ∃ z, z < hp.length ∧ (z = y ∨ (y = x ∧ z ∈ ys)) ∧ (y ∉ ys) ∧ b ∈ (ω.getD z own0).own) ∧ (b ∈ (g y).see → ∃ z, z < hp.length ∧ b ∈ (ω.getD z own0).see) := by
      intro y ly b
      by_cases e : y = x
      · subst e
        have eg : g y = u := by simp [g]
        rw [eg, hu1, hu2]
        constructor
        · rintro ⟨z, hz, hb⟩
          refine ⟨z, hlt z hz, ?_, hnx, hb⟩
          simp only [List.mem_cons] at hz
          rcases hz with hz | hz
          · exact .inl hz
          · exact .inr ⟨rfl, hz⟩
        · rintro ⟨z, hz, hb⟩; exact ⟨z, hlt z hz, hb⟩
      · by_cases e2 : y ∈ ys
        · have eg : g y = own0 := by simp [g, e, e2]
          rw [eg]; simp [own0]
        · have eg : g y = ω.getD y own0 := by simp [g, e, e2]
          rw [eg]; exact ⟨fun hb => ⟨y, ly, .inl rfl, e2, hb⟩, fun hb => ⟨y, ly, hb⟩⟩
    obtain ⟨y', l1, c1, n1, b1⟩ := (src y ly b).1 hb
    refine ⟨fun hb2 => ?_, fun hb2 => ?_⟩
    · obtain ⟨z', l2, c2, n2, b2⟩ := (src z lz b).1 hb2
      have := (h.dis y' z' _ _ (om0 y' l1) (om0 z' l2) b b1).1 b2
      subst this
      rcases c1 with c1 | ⟨c1, c1'⟩
      · rcases c2 with c2 | ⟨c2, c2'⟩
        · omega
        · subst c1; exact absurd c2' n1
      · rcases c2 with c2 | ⟨c2, c2'⟩
        · subst c2; exact absurd c1' n2
        · omega
    · obtain ⟨z', l2, b2⟩ := (src z lz b).2 hb2
      exact (h.dis y' z' _ _ (om0 y' l1) (om0 z' l2) b b1).2 b2
  · intro y oy hy b hb
    obtain ⟨ly, rfl⟩ := get y oy hy
    by_cases e : y = x
    · subst e
      have eg : g y = u := by simp [g]
      rw [eg, hu1, hu2] at hb
      rcases hb with ⟨z, hz, hb⟩ | ⟨z, hz, hb⟩
      · exact h.bnd z _ (om0 z (hlt z hz)) b (.inl hb)
      · exact h.bnd z _ (om0 z (hlt z hz)) b (.inr hb)
    · by_cases e2 : y ∈ ys
      · have eg : g y = own0 := by simp [g, e, e2]
        rw [eg] at hb; simp [own0] at hb
      · have eg : g y = ω.getD y own0 := by simp [g, e, e2]
        rw [eg] at hb
        exact h.bnd y _ (om0 y ly) b hb

/-! ### Unfolding -/
def tauU (x N i : Nat) : Nat :=
  match i with
  | 0 => x
  | i + 1 => N + i
def unf (hp : List Blk) (x : Nat) (l : List Blk) : List Blk :=
  match l with
  | [] => hp
  | k :: ks => hp.set x (renB (tauU x hp.length) k) ++ ks.map (renB (tauU x hp.length))

theorem HSat.unfold {ρ : Rho} {hp : List Blk} {w : World} {x : Nat} {S : List Blk → Prop} (hs : HSat ρ hp w) (hx : hp[x]? = some (.abs (AbsP S))) :
    ∃ l, S l ∧ ∃ ρ1, HSat (ρ ++ ρ1) (unf hp x l) w := by
  obtain ⟨ω, h⟩ := hs
  have hlt := (List.getElem?_eq_some_iff.1 hx).1
  have hN := h.lenh
  have hW := h.lenω
  have hr : ρ[x]? = some (ρ[x]'(by omega)) := by simp
  have hw : ω[x]? = some (ω[x]'(by omega)) := by simp
  generalize ρ[x]'(by omega) = ax at hr
  generalize ω[x]'(by omega) = ox at hw
  obtain ⟨l, hS, ρl, ωl, h0, hl, hu⟩ := h.sat x _ _ _ hr hw hx w (agree.refl _ _)
  refine ⟨l, hS, ρl.tail, ?_⟩
  have hNl := hl.lenh
  have hWl := hl.lenω
  cases l with
  | nil => simp at hNl; rw [List.eq_nil_of_length_eq_zero hNl.symm] at h0; simp at h0
  | cons k ks =>
    cases ρl with
    | nil => simp at h0
    | cons r0 rs =>
      cases ωl with
      | nil => simp at hWl
      | cons o0 os =>
        simp only [List.getElem?_cons_zero, Option.some.injEq] at h0
        subst h0
        simp only [List.length_cons, Nat.add_right_cancel_iff] at hNl hWl
        have via : Via (tauU x hp.length) (r0 :: rs) (ρ ++ rs) := by
          intro i r hi
          cases i with
          | zero => simp at hi; subst hi; unfold tauU; simp only; rw [List.getElem?_append_left (by omega)]; exact hr
          | succ i => simp at hi; unfold tauU; simp only; rw [List.getElem?_append_right (by omega)]; rw [show hp.length + i - ρ.length = i by omega]; exact hi
        have own : ∀ (i : Nat) (o : Own), (o0 :: os)[i]? = some o → ∀ b, (b ∈ o.own → b ∈ ox.own) ∧ (b ∈ o.see → b ∈ ox.see) := by
          intro i o hi b
          rw [hu]
          exact ⟨fun hb => mem_unionO.1.2 ⟨o, List.mem_of_getElem? hi, hb⟩, fun hb => mem_unionO.2.2 ⟨o, List.mem_of_getElem? hi, hb⟩⟩
        -- where each comes from
        have cls : ∀ (y : Nat) (o : Own), (ω.set x o0 ++ os)[y]? = some o → (∃ i, tauU x hp.length i = y ∧ (o0 :: os)[i]? = some o ∧ (ρ ++ rs)[y]? = (r0 :: rs)[i]? ∧
            (hp.set x (renB (tauU x hp.length) k) ++ ks.map (renB (tauU x hp.length)))[y]? = ((k :: ks)[i]?).map (renB (tauU x hp.length))) ∨
            (y < hp.length ∧ y ≠ x ∧ ω[y]? = some o ∧ (ρ ++ rs)[y]? = ρ[y]? ∧ (hp.set x (renB (tauU x hp.length) k) ++ ks.map (renB (tauU x hp.length)))[y]? = hp[y]?) := by
          intro y o hy
          rcases Nat.lt_or_ge y hp.length with hyl | hyg
          · rw [List.getElem?_append_left (by simp; omega)] at hy
            by_cases e : x = y
            · subst e
              rw [List.getElem?_set_self (by omega)] at hy
              refine .inl ⟨0, rfl, by simpa using hy, ?_, ?_⟩
              · rw [List.getElem?_append_left (by omega)]; simp [hr]
              · rw [List.getElem?_append_left (by simp; omega), List.getElem?_set_self hlt]; rfl
            · rw [List.getElem?_set_ne e] at hy
              refine .inr ⟨hyl, Ne.symm e, hy, List.getElem?_append_left (by omega), ?_⟩
              rw [List.getElem?_append_left (by simp; omega), List.getElem?_set_ne e]
          · rw [List.getElem?_append_right (by simp; omega)] at hy
            simp only [List.length_set] at hy
            refine .inl ⟨y - hp.length + 1, by unfold tauU; simp only; omega, ?_, ?_, ?_⟩
            · simp; rw [← hy]; congr 1; omega
            · rw [List.getElem?_append_right (by omega)]; simp; congr 1; omega
            · rw [List.getElem?_append_right (by simp; omega)]; simp
        refine ⟨ω.set x o0 ++ os, by simp; omega, by simp [unf]; omega, ?_, ?_, ?_⟩
        · show ∀ (y : Nat) (a : Option (Nat × Nat)) (o : Own) (k' : Blk), (ρ ++ rs)[y]? = some a → _ → _ → BSat (ρ ++ rs) a o w k'
          intro y a o k' h1 h2 h3
          rcases cls y o h2 with ⟨i, g1, g2, g3, g4⟩ | ⟨g1, g2, g3, g4, g5⟩
          · rw [g3] at h1
            simp only [unf] at h3
            rw [g4] at h3
            cases hk : (k :: ks)[i]? with
            | none => rw [hk] at h3; cases h3
            | some k0 =>
              rw [hk] at h3
              simp only [Option.map_some, Option.some.injEq] at h3
              subst h3
              exact (hl.sat i a o k0 h1 g2 hk).ren via
          · rw [g4] at h1
            simp only [unf] at h3
            rw [g5] at h3
            exact (h.sat y a o k' h1 g3 h3).mono (Ext.push _ _)
        · intro y z oy oz hy hz b hb
          rcases cls y oy hy with ⟨i, g1, g2, _, _⟩ | ⟨g1, g2, g3, _, _⟩
          · have hbx := (own i oy g2 b).1 hb
            rcases cls z oz hz with ⟨j, k1, k2, _, _⟩ | ⟨k1, k2, k3, _, _⟩
            · have := hl.dis i j oy oz g2 k2 b hb
              exact ⟨fun hb2 => by have := this.1 hb2; subst this; omega, this.2⟩
            · have := h.dis x z ox oz hw k3 b hbx
              exact ⟨fun hb2 => absurd (this.1 hb2).symm k2, this.2⟩
          · rcases cls z oz hz with ⟨j, k1, k2, _, _⟩ | ⟨k1, k2, k3, _, _⟩
            · have := h.dis y x oy ox g3 hw b hb
              exact ⟨fun hb2 => absurd (this.1 ((own j oz k2 b).1 hb2)) g2, fun hb2 => this.2 ((own j oz k2 b).2 hb2)⟩
            · exact h.dis y z oy oz g3 k3 b hb
        · intro y oy hy b hb
          rcases cls y oy hy with ⟨i, g1, g2, _, _⟩ | ⟨g1, g2, g3, _, _⟩
          · rcases hb with hb | hb
            · exact h.bnd x ox hw b (.inl ((own i oy g2 b).1 hb))
            · exact h.bnd x ox hw b (.inr ((own i oy g2 b).2 hb))
          · exact h.bnd y oy g3 b hb

theorem OkCall.unfold {C : Kit} {f : Nat} {args : List SV} {hp : List Blk} {K : Bool → SV → List Blk → Prop} {S : List Blk → Prop} (x : Nat) (hx : hp[x]? = some (.abs (AbsP S))) (hok : CallOk C.P f)
    (h : ∀ l, S l → OkCall C f args (unf hp x l) K) : OkCall C f args hp K := by
  refine ⟨hok, fun ρ w vals hd hs => ?_⟩
  obtain ⟨l, hS, ρ1, h1⟩ := hs.unfold hx
  refine ((h l hS).out (ρ ++ ρ1) w vals (hd.mono (Ext.push _ _)) h1).mono ?_
  rintro e w' ⟨q, ρ', v, c, hp', rfl, k1, k2, k3, k4, k5, hK⟩
  exact ⟨q, ρ', v, c, hp', rfl, (Ext.push _ _).trans k1, k2, k3, k4, k5, hK⟩
theorem SSat.unfold {E : Env} {q : Bool} {fr : Fr} {hp : List Blk} {a : Act} {w : World} {S : List Blk → Prop} (x : Nat) (hx : hp[x]? = some (.abs (AbsP S))) (hs : SSat E q ⟨fr, hp⟩ a w) : ∃ l, S l ∧ SSat E q ⟨fr, unf hp x l⟩ a w := by
  obtain ⟨ρ, h1, h2, h3, h4, h5⟩ := hs
  obtain ⟨l, hS, ρ1, k1⟩ := HSat.unfold h3 hx
  exact ⟨l, hS, ρ ++ ρ1, h1.trans (Ext.push _ _), h2.mono (Ext.push _ _), k1, h4, h5⟩
theorem Ok.unfold {C : Kit} {nt n0 : Nat} {c : Code} {q : Bool} {fr : Fr} {hp : List Blk} {Q : Bool → Ex → St → Prop} {S : List Blk → Prop} (x : Nat) (hx : hp[x]? = some (.abs (AbsP S)))
    (h : ∀ l, S l → Ok C nt n0 c q ⟨fr, unf hp x l⟩ Q) : Ok C nt n0 c q ⟨fr, hp⟩ Q := by
  refine ⟨fun E a w h1 h2 hs => ?_⟩
  obtain ⟨l, hS, k⟩ := hs.unfold x hx
  exact (h l hS).out E a w h1 h2 k
theorem OkLoop.unfold {C : Kit} {nt n0 : Nat} {c : Code} {q : Bool} {fr : Fr} {hp : List Blk} {Q : Bool → Ex → St → Prop} {S : List Blk → Prop} (x : Nat) (hx : hp[x]? = some (.abs (AbsP S)))
    (h : ∀ l, S l → OkLoop C nt n0 c q ⟨fr, unf hp x l⟩ Q) : OkLoop C nt n0 c q ⟨fr, hp⟩ Q := by
  refine ⟨fun E a w h1 h2 hs => ?_⟩
  obtain ⟨l, hS, k⟩ := hs.unfold x hx
  exact (h l hS).out E a w h1 h2 k
theorem CallOk.of {C : Kit} {f : Nat} {x : FnI} (h : FnOk C f x) : CallOk C.P f := by
  obtain ⟨fn, h1, h2, h3, _⟩ := h.out
  exact ⟨fn, h1, h3, by rw [h2]; rfl⟩

theorem LeOut.mk' {n0 : Nat} {q : Bool} {v : SV} {hp : List Blk} {q' : Bool} {v' : SV} {hp' : List Blk} (σ : List Nat) (h1 : σ.Nodup) (h2 : idPre σ n0 = true) (h3 : q' = true → q = true)
    (h4 : leV v (ren (tau σ hp.length) v')) (h5 : preL (tau σ hp.length) hp σ hp') : LeOut n0 q v hp q' v' hp' := ⟨σ, h1, h2, h3, h4, h5⟩
/-- What is handed back, first folded. -/
structure LeOut2 (n0 : Nat) (q : Bool) (v : SV) (hp : List Blk) (q' : Bool) (v' : SV) (hp' : List Blk) : Prop where
  out : ∃ hp2, HImp hp hp2 ∧ LeOut n0 q v hp2 q' v' hp'
theorem LeOut.two {n0 : Nat} {q : Bool} {v : SV} {hp : List Blk} {q' : Bool} {v' : SV} {hp' : List Blk} (h : LeOut n0 q v hp q' v' hp') : LeOut2 n0 q v hp q' v' hp' := ⟨hp, HImp.refl _, h⟩
theorem LeOut2.imp {n0 : Nat} {q : Bool} {v : SV} {hp hp2 : List Blk} {q' : Bool} {v' : SV} {hp' : List Blk} (hi : HImp hp hp2) (h : LeOut2 n0 q v hp2 q' v' hp') : LeOut2 n0 q v hp q' v' hp' := by
  obtain ⟨hp3, h1, h2⟩ := h.out
  exact ⟨hp3, hi.trans h1, h2⟩
theorem OkCall.of2 {C : Kit} {f : Nat} {args : List SV} {hp : List Blk} {n0 : Nat} {q' : Bool} {v' : SV} {hp' : List Blk}
    (h : OkCall C f args hp fun q v hp1 => LeOut2 n0 q v hp1 q' v' hp') : OkCall C f args hp fun q v hp1 => LeOut n0 q v hp1 q' v' hp' :=
  OkCall.post (h.cons fun q v hp1 hl => hl.out)
/-- A contract with one outcome, from a walk. -/
theorem Spec1.mk2 {C : Kit} {f : Nat} {args : List SV} {hp0 : List Blk} {q1 : Bool} {v1 : SV} {hp1 new : List Blk} (hl : hp1.length = hp0.length)
    (h : ∀ F, OkCall C f args (hp0 ++ [.abs F]) fun q v hp' => LeOut2 (hp0.length + 1) q v hp' q1 v1 (hp1 ++ .abs F :: new)) : Spec1 C f args hp0 q1 v1 hp1 new :=
  Spec1.mk' hl fun F => OkCall.of2 (h F)
end
end Go.Vex
