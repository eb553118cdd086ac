/-
  Joined: VZ VW PB CT CK.
-/
import Derived.Test.YtafhmkedblpdlaaDoorZ3
import Derived.Laws.IdiomRangeMap
import Derived.Test.YtafhmkedblpdlaaDoorZ2
import Derived.Test.YtafhmkedblpdlaaDoorProg
set_option linter.unusedVariables false
set_option linter.unusedSimpArgs false
/-
  VEX, part Z: a row of one's own, lent to be looked at; rows made of single cells.
-/
section
namespace Go.Vex
noncomputable section
/-- It sees no block that it does not own. -/
def noSee (k : Blk) : Prop := ∀ ρ a o w, BSat ρ a o w k → o.see = []
theorem noSee.gone : noSee .gone := fun ρ a o w h => by rw [show o = ⟨[], []⟩ from h]
theorem noSee.cells (T : TypeId) (l : List SV) : noSee (.cells T l) := fun ρ a o w h => by
  obtain ⟨cs, _, ⟨_, _, h⟩ | ⟨b, _, h, _⟩⟩ := h <;> rw [h]
theorem noSee.obj (x : Obj) : noSee (.obj x) := fun ρ a o w h => by obtain ⟨b, _, h, _⟩ := h; rw [h]
theorem noSee.pk {S : List Blk → Prop} (h : ∀ l, S l → ∀ k ∈ l, noSee k) : noSee (.pk S) := fun ρ a o w hs => by
  obtain ⟨l, hS, ρl, ωl, h0, hl, hu⟩ := hs w (agree.refl _ _)
  rw [hu]
  cases hsee : (unionO ωl).see with
  | nil => rfl
  | cons b r =>
    obtain ⟨ob, hob, hb⟩ := mem_unionO.2.1 (show b ∈ (unionO ωl).see by rw [hsee]; simp)
    obtain ⟨i, hi, e⟩ := List.getElem_of_mem hob
    have e1 : ωl[i]? = some ob := by rw [List.getElem?_eq_getElem hi, e]
    have hir : i < ρl.length := by rw [← hl.lenω]; exact hi
    have hih : i < l.length := by rw [hl.lenh]; exact hir
    have hn := h l hS (l[i]) (List.getElem_mem hih) ρl (ρl[i]) ob w (hl.sat i _ _ _ (by simp [hir]) e1 (by simp [hih]))
    rw [hn] at hb; cases hb
theorem noSee.MP (E : List (Value × Value)) : noSee (.abs (MP E)) := fun ρ a o w h => by
  obtain ⟨b, _, h, _⟩ := h w (agree.refl _ _); rw [h]
/-- All but one see nothing of others'. -/
def noSees (i : Nat) (l0 l : List Blk) : Prop := ∀ (j : Nat) k, j ≠ i → l[j]? = some k → noSee k ∨ ∃ r, k = .ro r ∧ l0[j]? = some (.ro r)
def noSeesN (l : List Blk) : Prop := ∀ k ∈ l, noSee k
/-- What is said of a row is said of its beginning. -/
def Pre (l l0 : List SV) : Prop := ∀ ρ cs, DenL ρ l cs → ∃ c1 c2, cs = c1 ++ c2 ∧ DenL ρ l0 c1
theorem Pre.one {x y : SV} {r : List SV} (h : leV x y) : Pre (x :: r) [y] := fun ρ cs hd => by
  obtain ⟨c1, c2, rfl, g1, g2⟩ := hd.of_cons
  exact ⟨c1, c2, rfl, .cons c1 [] (by simp) (leV.denC g1 h) (.nil rfl)⟩
theorem Pre.all {l l0 : List SV} (h : leL l l0) : Pre l l0 := fun ρ cs hd => ⟨cs, [], by simp, leL.den hd h⟩

def lendF (F : Option (Nat × Nat) → Own → World → Prop) (b : Nat) (ob : Option Obj) (a : Option (Nat × Nat)) (o : Own) (w : World) : Prop :=
  ∃ oF : Own, o = ⟨oF.own, oF.see ++ [b]⟩ ∧ b ∉ oF.see ∧ w.heap[b]? = ob ∧ ∀ w', agree oF w w' → F a oF w'
theorem set_snoc {α : Type} (l : List α) (i : Nat) (x y : α) (h : i < l.length) : (l ++ [y]).set i x = l.set i x ++ [y] := by
  rw [List.set_append_left _ _ h]
theorem Spec1.lend {C : Kit} {f : Nat} {args : List SV} {hp0 hp1 new : List Blk} {q1 : Bool} {v1 : SV} (hs : Spec1 C f args hp0 q1 v1 hp1 new) (i : Nat) (T : TypeId) (l : List SV) {l0 l1 : List SV} (h0 : hp0[i]? = some (.ro l0)) (h1 : hp1[i]? = some (.ro l1))
    (hle : Pre l l0) (hns : noSees i hp0 hp1) (hnn : noSeesN new) : Spec1 C f args (hp0.set i (.cells T l)) q1 v1 (hp1.set i (.cells T l)) new := by
  refine ⟨by simp [hs.len], fun F => ⟨(hs.out fun _ _ _ => True).ok, fun ρ w vals hd hsat => ?_⟩⟩
  obtain ⟨ω, h⟩ := hsat
  have hil0 : i < hp0.length := (List.getElem?_eq_some_iff.1 h0).1
  have hil1 : i < hp1.length := (List.getElem?_eq_some_iff.1 h1).1
  have hlen := hs.len
  have hρ : ρ.length = hp0.length + 1 := by have := h.lenh; simp at this; omega
  have hω : ω.length = hp0.length + 1 := by rw [h.lenω]; exact hρ
  have hxi : ((hp0.set i (.cells T l)) ++ [.abs F])[i]? = some (.cells T l) := by rw [List.getElem?_append_left (by simp; omega), List.getElem?_set_self hil0]
  have hxl : ((hp0.set i (.cells T l)) ++ [.abs F])[hp0.length]? = some (.abs F) := by rw [List.getElem?_append_right (by simp)]; simp
  obtain ⟨ai, oi, hai, hoi, cs, hdn, hcc⟩ := HSat.getO h hxi
  obtain ⟨aF, oF, haF, hoF, hF⟩ := HSat.getO h hxl
  have hother : ∀ (y : Nat) (k : Blk), y ≠ i → y < hp0.length → hp0[y]? = some k → ((hp0.set i (.cells T l)) ++ [.abs F])[y]? = some k := by
    intro y k hy hyl hk
    rw [List.getElem?_append_left (by simpa using hyl), List.getElem?_set_ne (Ne.symm hy)]; exact hk
  rcases hcc with ⟨rfl, rfl, rfl⟩ | ⟨b, rfl, rfl, hhb⟩
  · -- a nil slice's
    have hsat0 : HSat ρ (hp0 ++ [.abs F]) w := by
      refine ⟨ω, h.lenω, by simp [hρ], ?_, h.dis, h.bnd⟩
      intro y a o k g1 g2 g3
      by_cases hy : y = i
      · subst hy
        rw [List.getElem?_append_left hil0, h0] at g3; cases g3
        rw [hai] at g1; cases g1
        rw [hoi] at g2; cases g2
        obtain ⟨c1, c2, e, hd1⟩ := hle ρ [] hdn
        have : c1 = [] := by simpa using (List.append_eq_nil_iff.1 e.symm).1
        subst this
        exact ⟨[], hd1, .inl ⟨rfl, rfl⟩⟩
      · refine h.sat y a o k g1 g2 ?_
        rcases Nat.lt_or_ge y hp0.length with hyl | hyl
        · rw [List.getElem?_append_left hyl] at g3; exact hother y k hy hyl g3
        · rw [List.getElem?_append_right hyl] at g3
          rw [List.getElem?_append_right (by simpa using hyl)]; simpa using g3
    refine ((hs.out F).out ρ w vals hd hsat0).mono ?_
    rintro e w' ⟨q, ρ', v, c, hp', rfl, k1, k2, ⟨ω', k3⟩, k4, k5, rfl, rfl, rfl⟩
    refine ⟨_, ρ', _, c, _, rfl, k1, k2, ?_, k4, k5, rfl, rfl, rfl⟩
    have hi' : ρ'[i]? = some none := k1 _ _ hai
    have hio : ∃ o, ω'[i]? = some o ∧ (o = ⟨[], []⟩) := by
      have hlt : i < ω'.length := by rw [k3.lenω]; exact (List.getElem?_eq_some_iff.1 hi').1
      refine ⟨ω'[i], List.getElem?_eq_getElem hlt, ?_⟩
      obtain ⟨cs1, _, ⟨_, e⟩ | ⟨b, o0, e, _⟩⟩ := k3.sat i none _ (.ro l1) hi' (List.getElem?_eq_getElem hlt) (by rw [List.getElem?_append_left hil1]; exact h1)
      · exact e
      · cases e
    obtain ⟨o1, ho1, rfl⟩ := hio
    refine ⟨ω', k3.lenω, by have := k3.lenh; simp at this ⊢; omega, ?_, k3.dis, k3.bnd⟩
    intro y a o k g1 g2 g3
    by_cases hy : y = i
    · subst hy
      rw [List.getElem?_append_left (by simpa using hil1), List.getElem?_set_self hil1] at g3; cases g3
      rw [hi'] at g1; cases g1
      rw [ho1] at g2; cases g2
      exact ⟨[], hdn.mono k1, .inl ⟨rfl, rfl, rfl⟩⟩
    · refine k3.sat y a o k g1 g2 ?_
      rcases Nat.lt_or_ge y hp1.length with hyl | hyl
      · rw [List.getElem?_append_left (by simpa using hyl), List.getElem?_set_ne (Ne.symm hy)] at g3
        rw [List.getElem?_append_left hyl]; exact g3
      · rw [List.getElem?_append_right (by simpa using hyl)] at g3
        rw [List.getElem?_append_right hyl]; simpa using g3
  · -- a block
    have hbF : b ∉ oF.see ∧ b ∉ oF.own := by
      have := h.dis i hp0.length _ _ hoi hoF b (by simp)
      exact ⟨this.2, fun hb => by have := this.1 hb; omega⟩
    let F' := lendF F b (w.heap[b]?)
    let ω0 := (ω.set i ⟨[], [b]⟩).set hp0.length ⟨oF.own, oF.see ++ [b]⟩
    have hne : i ≠ hp0.length := by omega
    have gi0 : ω0[i]? = some ⟨[], [b]⟩ := by
      simp only [ω0]; rw [List.getElem?_set_ne (Ne.symm hne), List.getElem?_set_self (by omega)]
    have gl0 : ω0[hp0.length]? = some ⟨oF.own, oF.see ++ [b]⟩ := by
      simp only [ω0]; rw [List.getElem?_set_self (by simp; omega)]
    have go0 : ∀ y, y ≠ i → y ≠ hp0.length → ω0[y]? = ω[y]? := fun y h1 h2 => by
      simp only [ω0]; rw [List.getElem?_set_ne (Ne.symm h2), List.getElem?_set_ne (Ne.symm h1)]
    have cls0 : ∀ y o, ω0[y]? = some o → (y = i ∧ o = ⟨[], [b]⟩) ∨ (y = hp0.length ∧ o = ⟨oF.own, oF.see ++ [b]⟩) ∨ (y ≠ i ∧ y ≠ hp0.length ∧ ω[y]? = some o) := by
      intro y o hy
      by_cases e1 : y = i
      · subst e1; rw [gi0] at hy; cases hy; exact .inl ⟨rfl, rfl⟩
      · by_cases e2 : y = hp0.length
        · subst e2; rw [gl0] at hy; cases hy; exact .inr (.inl ⟨rfl, rfl⟩)
        · rw [go0 y e1 e2] at hy; exact .inr (.inr ⟨e1, e2, hy⟩)
    have hbnd := h.bnd i _ hoi b (by simp)
    have nobody : ∀ y o, y ≠ i → ω[y]? = some o → b ∉ o.own ∧ b ∉ o.see := fun y o hy ho => by
      have := h.dis i y _ _ hoi ho b (by simp)
      exact ⟨fun hb => hy (this.1 hb).symm, this.2⟩
    have hsat0 : HSat ρ (hp0 ++ [.abs F']) w := by
      refine ⟨ω0, by simp [ω0, h.lenω], by simp [hρ], ?_, ?_, ?_⟩
      · intro y a o k g1 g2 g3
        rcases cls0 y o g2 with ⟨rfl, rfl⟩ | ⟨rfl, rfl⟩ | ⟨e1, e2, g2'⟩
        · rw [List.getElem?_append_left hil0, h0] at g3; cases g3
          rw [hai] at g1; cases g1
          obtain ⟨c1, c2, rfl, hd1⟩ := hle ρ cs hdn
          refine ⟨c1, hd1, .inr ⟨b, 0, rfl, rfl, .inr ⟨_, _, _, hhb, fun j c hj => ?_⟩⟩⟩
          have hlt := (List.getElem?_eq_some_iff.1 hj).1
          simp [List.getElem?_append_left hlt, hj]
        · rw [List.getElem?_append_right (Nat.le_refl _)] at g3
          simp at g3; subst g3
          rw [haF] at g1; cases g1
          intro w' hw'
          refine ⟨oF, rfl, hbF.1, hw' b (.inr (by simp)), fun w2 hw2 => hF w2 ?_⟩
          exact agree.trans (fun x hx => hw' x (by rcases hx with hx | hx; exact .inl hx; exact .inr (by simp [hx]))) hw2
        · refine h.sat y a o k g1 g2' ?_
          have hyl : y < hp0.length := by have := (List.getElem?_eq_some_iff.1 g1).1; omega
          rw [List.getElem?_append_left hyl] at g3; exact hother y k e1 hyl g3
      · intro x y ox oy hx hy c hc
        rcases cls0 x ox hx with ⟨rfl, rfl⟩ | ⟨rfl, rfl⟩ | ⟨e1, e2, hx'⟩
        · simp at hc
        · rcases cls0 y oy hy with ⟨rfl, rfl⟩ | ⟨rfl, rfl⟩ | ⟨k1, k2, hy'⟩
          · refine ⟨fun h => by simp at h, fun h => ?_⟩
            simp only [List.mem_singleton] at h; subst h; exact hbF.2 hc
          · refine ⟨fun _ => rfl, fun hm => ?_⟩
            rcases List.mem_append.1 hm with hm | hm
            · exact (h.dis hp0.length hp0.length _ _ hoF hoF c hc).2 hm
            · simp only [List.mem_singleton] at hm; subst hm; exact hbF.2 hc
          · exact h.dis hp0.length y _ _ hoF hy' c hc
        · rcases cls0 y oy hy with ⟨rfl, rfl⟩ | ⟨rfl, rfl⟩ | ⟨k1, k2, hy'⟩
          · refine ⟨fun h => by simp at h, fun h => ?_⟩
            simp only [List.mem_singleton] at h; subst h; exact (nobody x ox e1 hx').1 hc
          · have := h.dis x hp0.length _ _ hx' hoF c hc
            refine ⟨this.1, fun h => ?_⟩
            rcases List.mem_append.1 h with h | h
            · exact this.2 h
            · simp only [List.mem_singleton] at h; subst h; exact (nobody x ox e1 hx').1 hc
          · exact h.dis x y _ _ hx' hy' c hc
      · intro x ox hx c hc
        rcases cls0 x ox hx with ⟨rfl, rfl⟩ | ⟨rfl, rfl⟩ | ⟨e1, e2, hx'⟩
        · simp at hc; subst hc; exact hbnd
        · rcases hc with hc | hc
          · exact h.bnd _ _ hoF c (.inl hc)
          · rcases List.mem_append.1 hc with hc | hc
            · exact h.bnd _ _ hoF c (.inr hc)
            · simp only [List.mem_singleton] at hc; subst hc; exact hbnd
        · exact h.bnd x ox hx' c hc
    refine ((hs.out F').out ρ w vals hd hsat0).mono ?_
    rintro e w' ⟨q, ρ', v, c, hp', rfl, k1, k2, ⟨ω', k3⟩, k4, k5, rfl, rfl, rfl⟩
    refine ⟨_, ρ', _, c, _, rfl, k1, k2, ?_, k4, k5, rfl, rfl, rfl⟩
    have hi' : ρ'[i]? = some (some (b, 0)) := k1 _ _ hai
    have hil' : i < ω'.length := by rw [k3.lenω]; exact (List.getElem?_eq_some_iff.1 hi').1
    obtain ⟨aG, oG', haG, hoG', hG⟩ := HSat.getO k3 (x := hp1.length) (k := .abs F') (by simp)
    obtain ⟨oG, rfl, hG1, hG2, hG3⟩ := hG w' (agree.refl _ _)
    have hlen' : ω'.length = hp1.length + 1 + new.length := by rw [k3.lenω, ← k3.lenh]; simp; omega
    have hne1 : i ≠ hp1.length := by omega
    let g : Nat → Own := fun y => if y = i then ⟨[b], []⟩ else if y = hp1.length then oG else if b ∈ (ω'.getD y own0).see then own0 else ω'.getD y own0
    have get : ∀ y o, ((List.range ω'.length).map g)[y]? = some o → y < ω'.length ∧ o = g y := by
      intro y o ho
      rw [List.getElem?_map] at ho
      rcases Nat.lt_or_ge y ω'.length with hy | hy
      · rw [List.getElem?_range hy] at ho; simp at ho; exact ⟨hy, ho.symm⟩
      · rw [List.getElem?_eq_none (by simpa using hy)] at ho; cases ho
    have om' : ∀ x, x < ω'.length → ω'[x]? = some (ω'.getD x own0) := by
      intro x hx
      have : ω'[x]? = some (ω'[x]) := by simp [hx]
      rw [getD_of this]; exact this
    have cls : ∀ y, y < ω'.length → (y = i ∧ g y = ⟨[b], []⟩) ∨ (y = hp1.length ∧ g y = oG) ∨ (y ≠ i ∧ y ≠ hp1.length ∧ b ∈ (ω'.getD y own0).see ∧ g y = own0) ∨ (y ≠ i ∧ y ≠ hp1.length ∧ b ∉ (ω'.getD y own0).see ∧ g y = ω'.getD y own0) := by
      intro y hy
      by_cases e1 : y = i
      · exact .inl ⟨e1, by simp [g, e1]⟩
      · by_cases e2 : y = hp1.length
        · exact .inr (.inl ⟨e2, by simp [g, e2, Ne.symm hne1]⟩)
        · by_cases e3 : b ∈ (ω'.getD y own0).see
          · exact .inr (.inr (.inl ⟨e1, e2, e3, by simp only [g]; rw [if_neg e1, if_neg e2, if_pos e3]⟩))
          · exact .inr (.inr (.inr ⟨e1, e2, e3, by simp only [g]; rw [if_neg e1, if_neg e2, if_neg e3]⟩))
    have ownb : ∀ y, y < ω'.length → b ∉ (ω'.getD y own0).own := by
      intro y hy hb
      exact (k3.dis y hp1.length _ _ (om' y hy) hoG' b hb).2 (by simp)
    have oGb : b ∉ oG.own := by
      have := ownb hp1.length (by omega)
      rw [getD_of hoG'] at this; exact this
    refine ⟨(List.range ω'.length).map g, by simp [k3.lenω], by have := k3.lenh; simp at this ⊢; omega, ?_, ?_, ?_⟩
    · intro y a o k g1 g2 g3
      obtain ⟨hy, rfl⟩ := get y o g2
      rcases cls y hy with ⟨rfl, e⟩ | ⟨rfl, e⟩ | ⟨e1, e2, e3, e⟩ | ⟨e1, e2, e3, e⟩
      · rw [e]
        rw [List.getElem?_append_left (by simpa using hil1), List.getElem?_set_self hil1] at g3; cases g3
        rw [hi'] at g1; cases g1
        exact ⟨cs, hdn.mono k1, .inr ⟨b, rfl, rfl, by rw [hG2]; exact hhb⟩⟩
      · rw [e]
        rw [List.getElem?_append_right (by simp)] at g3
        simp at g3; subst g3
        rw [haG] at g1; cases g1
        exact hG3
      · rw [e]
        have hk3 : (hp1 ++ .abs F' :: new)[y]? = some k := by
          rcases Nat.lt_or_ge y hp1.length with hyl | hyl
          · rw [List.getElem?_append_left (by simpa using hyl), List.getElem?_set_ne (Ne.symm e1)] at g3
            rw [List.getElem?_append_left hyl]; exact g3
          · rw [List.getElem?_append_right (by simpa using hyl)] at g3
            rw [List.getElem?_append_right hyl]
            obtain ⟨d, hd⟩ : ∃ d, y - hp1.length = d + 1 := ⟨y - hp1.length - 1, by omega⟩
            simp only [List.length_set, hd, List.getElem?_cons_succ] at g3 ⊢; exact g3
        have hsat := k3.sat y a _ k g1 (om' y hy) hk3
        have hro : ∃ r, k = .ro r ∧ hp0[y]? = some (.ro r) := by
          rcases Nat.lt_or_ge y hp1.length with hyl | hyl
          · rw [List.getElem?_append_left hyl] at hk3
            rcases hns y k e1 hk3 with hn | hn
            · rw [hn _ _ _ _ hsat] at e3; cases e3
            · exact hn
          · rw [List.getElem?_append_right hyl] at hk3
            obtain ⟨d, hd⟩ : ∃ d, y - hp1.length = d + 1 := ⟨y - hp1.length - 1, by omega⟩
            rw [hd, List.getElem?_cons_succ] at hk3
            rw [hnn k (List.mem_of_getElem? hk3) _ _ _ _ hsat] at e3; cases e3
        obtain ⟨r, rfl, hr0⟩ := hro
        have hyl : y < hp0.length := (List.getElem?_eq_some_iff.1 hr0).1
        have hyρ : ρ[y]? = some (ρ[y]'(by omega)) := List.getElem?_eq_getElem (by omega)
        have hyω : ω[y]? = some (ω[y]'(by omega)) := List.getElem?_eq_getElem (by omega)
        have ea := k1 _ _ hyρ
        rw [g1] at ea; cases ea
        obtain ⟨cs2, hd2, hc2⟩ := h.sat y _ _ (.ro r) hyρ hyω (hother y _ e1 hyl hr0)
        have hab : ∃ o0, ρ[y]'(by omega) = some (b, o0) := by
          obtain ⟨cs3, _, hc3⟩ := hsat
          rcases hc3 with ⟨_, h⟩ | ⟨b3, o3, h1, h2, _⟩
          · rw [h] at e3; cases e3
          · rw [h2] at e3; simp only [List.mem_singleton] at e3; subst e3; exact ⟨o3, h1⟩
        obtain ⟨o0, hab⟩ := hab
        rcases hc2 with ⟨rfl, _⟩ | ⟨b4, o4, h1, h2, _⟩
        · exact ⟨[], hd2.mono k1, .inl ⟨rfl, rfl⟩⟩
        · rw [hab] at h1; cases h1
          exact absurd (by rw [h2]; simp) (nobody y _ e1 hyω).2
      · rw [e]
        refine k3.sat y a _ k g1 (om' y hy) ?_
        rcases Nat.lt_or_ge y hp1.length with hyl | hyl
        · rw [List.getElem?_append_left (by simpa using hyl), List.getElem?_set_ne (Ne.symm e1)] at g3
          rw [List.getElem?_append_left hyl]; exact g3
        · rw [List.getElem?_append_right (by simpa using hyl)] at g3
          rw [List.getElem?_append_right hyl]
          obtain ⟨d, hd⟩ : ∃ d, y - hp1.length = d + 1 := ⟨y - hp1.length - 1, by omega⟩
          simp only [List.length_set, hd, List.getElem?_cons_succ] at g3 ⊢; exact g3
    · intro x y ox oy hx hy c hc
      obtain ⟨lx, rfl⟩ := get x ox hx
      obtain ⟨ly, rfl⟩ := get y oy hy
      have oGd : ∀ z, z < ω'.length → z ≠ hp1.length → ∀ c, c ∈ oG.own → (c ∈ (ω'.getD z own0).own → False) ∧ c ∉ (ω'.getD z own0).see := fun z hz hzn c hc => by
        have := k3.dis hp1.length z _ _ hoG' (om' z hz) c hc
        exact ⟨fun h => hzn (this.1 h).symm, this.2⟩
      rcases cls x lx with ⟨rfl, e⟩ | ⟨rfl, e⟩ | ⟨_, _, _, e⟩ | ⟨e1, e2, e3, e⟩
      · rw [e] at hc
        simp only [List.mem_singleton] at hc
        subst hc
        rcases cls y ly with ⟨rfl, k⟩ | ⟨rfl, k⟩ | ⟨_, _, _, k⟩ | ⟨k1, k2, k3', k⟩
        · rw [k]; simp
        · rw [k]; exact ⟨fun h => absurd h oGb, hG1⟩
        · rw [k]; simp [own0]
        · rw [k]; exact ⟨fun h => absurd h (ownb y ly), k3'⟩
      · rw [e] at hc
        rcases cls y ly with ⟨rfl, k⟩ | ⟨rfl, k⟩ | ⟨_, _, _, k⟩ | ⟨k1, k2, k3', k⟩
        · rw [k]; refine ⟨fun hm => ?_, by simp⟩
          simp only [List.mem_singleton] at hm; subst hm; exact absurd hc oGb
        · rw [k]
          refine ⟨fun _ => rfl, fun hm => ?_⟩
          exact (k3.dis hp1.length hp1.length _ _ hoG' hoG' c hc).2 (by simp [hm])
        · rw [k]; simp [own0]
        · rw [k]; exact ⟨fun h => ((oGd y ly k2 c hc).1 h).elim, (oGd y ly k2 c hc).2⟩
      · rw [e] at hc; simp [own0] at hc
      · rw [e] at hc
        rcases cls y ly with ⟨rfl, k⟩ | ⟨rfl, k⟩ | ⟨_, _, _, k⟩ | ⟨k1, k2, k3', k⟩
        · rw [k]; refine ⟨fun hm => ?_, by simp⟩
          simp only [List.mem_singleton] at hm; subst hm; exact absurd hc (ownb x lx)
        · rw [k]
          have := k3.dis x hp1.length _ _ (om' x lx) hoG' c hc
          exact ⟨this.1, fun hm => this.2 (by simp [hm])⟩
        · rw [k]; simp [own0]
        · rw [k]; exact k3.dis x y _ _ (om' x lx) (om' y ly) c hc
    · intro x ox hx c hc
      obtain ⟨lx, rfl⟩ := get x ox hx
      rcases cls x lx with ⟨rfl, e⟩ | ⟨rfl, e⟩ | ⟨_, _, _, e⟩ | ⟨e1, e2, e3, e⟩
      · rw [e] at hc
        simp at hc; subst hc
        exact k3.bnd hp1.length _ hoG' c (.inr (by simp))
      · rw [e] at hc
        exact k3.bnd hp1.length _ hoG' c (by rcases hc with hc | hc; exact .inl hc; exact .inr (by simp [hc]))
      · rw [e] at hc; simp [own0] at hc
      · rw [e] at hc; exact k3.bnd x _ (om' x lx) c hc
/-! ### Rows made of single cells -/
def isOne : SV → Bool
  | .i _ _ => true
  | .b _ => true
  | .str _ => true
  | .p _ _ => true
  | .nilp => true
  | .slc .. => true
  | .slr .. => true
  | .nilslc => true
  | .fn .. => true
  | .nilfn => true
  | .ifc .. => true
  | .nilifc => true
  | .map _ => true
  | .nilmap => true
  | _ => false
theorem DenC.isOne {ρ : Rho} {x : SV} {cs : List Value} (h : DenC ρ x cs) (hx : isOne x = true) : ∃ c, cs = [c] := by
  cases h with
  | one c h h1 hx => exact ⟨c, h⟩
  | ints hm h => cases hx
  | rows hm h => cases hx
  | junk hm h => cases hx
theorem DenL.onesZ {ρ : Rho} : ∀ {l : List SV} {cs : List Value}, DenL ρ l cs → l.all isOne = true → cs.length = l.length ∧ ∀ n, DenL ρ (l.drop n) (cs.drop n) ∧ DenL ρ (l.take n) (cs.take n)
  | [], cs, h, _ => by
    rw [h.of_nil]
    exact ⟨rfl, fun n => by simp; exact .nil rfl⟩
  | x :: r, cs, h, ho => by
    obtain ⟨c1, c2, rfl, g1, g2⟩ := h.of_cons
    simp only [List.all_cons, Bool.and_eq_true] at ho
    obtain ⟨c, rfl⟩ := g1.isOne ho.1
    obtain ⟨h1, h2⟩ := DenL.onesZ g2 ho.2
    refine ⟨by simp [h1], fun n => ?_⟩
    cases n with
    | zero => exact ⟨by simpa using h, by simpa using .nil rfl⟩
    | succ n =>
      obtain ⟨k1, k2⟩ := h2 n
      exact ⟨by simpa using k1, by simpa using DenL.cons [c] (c2.take n) (by simp) g1 k2⟩
theorem BImp.toRows {T : TypeId} {l : List SV} {w n : Nat} {f : Nat → List SV} (ho : l.all isOne = true) (hl : l.length = n * w) (hf : ∀ j, j < n → leL ((l.drop (j * w)).take w) (f j)) : BImp (.cells T l) (.cells T [.rows w (.ex n) f]) := by
  refine ⟨fun ρ a o W ⟨cs, hd, hc⟩ => ⟨cs, .cons cs [] (by simp) (.rows ?_ fun j hj => ?_) (.nil rfl), hc⟩⟩
  · rw [(hd.onesZ ho).1, hl]; rfl
  · have h1 := ((hd.onesZ ho).2 (j * w)).1
    have h2 := (h1.onesZ (by rw [List.all_eq_true] at ho ⊢; exact fun x hx => ho x (List.mem_of_mem_drop hx))).2 w
    exact leL.den h2.2 (hf j hj)
theorem HImp.toRows {hp : List Blk} (x : Nat) {T : TypeId} {l : List SV} (w n : Nat) (f : Nat → List SV) (hx : hp[x]? = some (.cells T l)) (ho : l.all isOne = true) (hl : l.length = n * w) (hf : ∀ j, j < n → leL ((l.drop (j * w)).take w) (f j)) :
    HImp hp (hp.set x (.cells T [.rows w (.ex n) f])) := HImp.at x hx (BImp.toRows ho hl hf)
/-! ### Nil slices as rows of nothing -/
theorem HSat.addNone {ρ : Rho} {hp : List Blk} {w : World} (h : HSat ρ hp w) {k : Blk} (hk : ∀ ρ w, BSat ρ none ⟨[], []⟩ w k) : HSat (ρ ++ [none]) (hp ++ [k]) w := by
  obtain ⟨ω, h⟩ := h
  refine ⟨ω ++ [⟨[], []⟩], by simp [h.lenω], by simp [h.lenh], ?_, ?_, ?_⟩
  · intro y a o k' h1 h2 h3
    rcases getElem?_snoc _ _ _ _ h1 with ⟨hy, h1⟩ | ⟨hy, h1⟩
    · rcases getElem?_snoc _ _ _ _ h2 with ⟨_, h2⟩ | ⟨hy2, _⟩
      · rcases getElem?_snoc _ _ _ _ h3 with ⟨_, h3⟩ | ⟨hy3, _⟩
        · exact (h.sat y a o k' h1 h2 h3).mono (Ext.push _ _)
        · rw [h.lenh] at hy3; omega
      · rw [h.lenω] at hy2; omega
    · subst h1
      rcases getElem?_snoc _ _ _ _ h2 with ⟨hy2, _⟩ | ⟨_, h2⟩
      · rw [h.lenω] at hy2; omega
      · rcases getElem?_snoc _ _ _ _ h3 with ⟨hy3, _⟩ | ⟨_, h3⟩
        · rw [h.lenh] at hy3; omega
        · subst h2; subst h3; exact hk _ _
  · intro y z oy oz hy hz b hb
    rcases getElem?_snoc _ _ _ _ hy with ⟨_, hy⟩ | ⟨_, hy⟩
    · rcases getElem?_snoc _ _ _ _ hz with ⟨_, hz⟩ | ⟨_, hz⟩
      · exact h.dis y z oy oz hy hz b hb
      · subst hz; simp
    · subst hy; simp at hb
  · intro y oy hy b hb
    rcases getElem?_snoc _ _ _ _ hy with ⟨_, hy⟩ | ⟨_, hy⟩
    · exact h.bnd y oy hy b hb
    · subst hy; simp at hb
theorem den_nil {ρ : Rho} {c : Value} (h : Den ρ .nilslc c) (l0 w0 : Nat) : Den (ρ ++ [none]) (.slc ρ.length l0 w0 (.lit 0) (.lit 0) (.lit 0)) c := by
  cases h with
  | nilslc h => exact .slc none (by simp) (fun _ => ⟨rfl, rfl⟩) h
theorem DenT.setNil {ρ : Rho} {l0 w0 : Nat} : ∀ {l : List SV} {cs : List Value} (i : Nat), DenT ρ l cs → l[i]? = some .nilslc → DenT (ρ ++ [none]) (l.set i (.slc ρ.length l0 w0 (.lit 0) (.lit 0) (.lit 0))) cs
  | [], cs, i, h, hi => by simp at hi
  | x :: r, cs, 0, h, hi => by
    simp at hi; subst hi
    cases h with
    | cons c c2 e h1 h2 => exact .cons c c2 e (den_nil h1 l0 w0) (h2.mono (Ext.push _ _))
  | x :: r, cs, i + 1, h, hi => by
    simp at hi
    cases h with
    | cons c c2 e h1 h2 => exact .cons c c2 e (h1.mono (Ext.push _ _)) (DenT.setNil i h2 hi)
theorem OkCall.nilArg {C : Kit} {f : Nat} {args : List SV} {hp : List Blk} {K : Bool → SV → List Blk → Prop} (i l0 w0 : Nat) (k : Blk) (hi : args[i]? = some .nilslc) (hk : ∀ ρ w, BSat ρ none ⟨[], []⟩ w k)
    (h : OkCall C f (args.set i (.slc hp.length l0 w0 (.lit 0) (.lit 0) (.lit 0))) (hp ++ [k]) K) : OkCall C f args hp K := by
  refine ⟨h.ok, fun ρ w vals hd hs => ?_⟩
  have hl := hs.len
  have hd' := hd.setNil (l0 := l0) (w0 := w0) i hi
  rw [← hl] at hd'
  refine (h.out _ w vals hd' (hs.addNone hk)).mono ?_
  rintro e w' ⟨q, ρ', v, c, hp', rfl, k1, k2⟩
  exact ⟨q, ρ', v, c, hp', rfl, (Ext.push _ _).trans k1, k2⟩
theorem Ok.nilSlot {C : Kit} {nt n0 : Nat} {c : Code} {q : Bool} {fr : Fr} {hp : List Blk} {Q : Bool → Ex → St → Prop} (t l0 w0 : Nat) (k : Blk) (ht : t ≠ 1000003) (hi : look fr t = some .nilslc) (hk : ∀ ρ w, BSat ρ none ⟨[], []⟩ w k)
    (h : Ok C nt n0 c q ⟨(t, .slc hp.length l0 w0 (.lit 0) (.lit 0) (.lit 0)) :: fr, hp ++ [k]⟩ Q) : Ok C nt n0 c q ⟨fr, hp⟩ Q := by
  refine ⟨fun E a w h1 h2 hs => h.out E a w h1 h2 ?_⟩
  obtain ⟨ρ, g1, g2, g3, g4, g5⟩ := hs
  have hl := g3.len
  have g2' := g2.mono (Ext.push ρ [none])
  refine ⟨ρ ++ [none], g1.trans (Ext.push _ _), ⟨g2'.size, g2'.le, ?_, ?_, fun s v hs hv => ?_⟩, g3.addNone hk, g4, g5⟩
  · show _ = rdOf (look ((t, _) :: fr) 1000003)
    rw [look_ne ht]; exact g2'.rdk
  · show DenMk _ (look ((t, _) :: fr) 1000003) _
    rw [look_ne ht]; exact g2'.marks
  · by_cases e : s = t
    · subst e
      simp [look] at hv
      subst hv
      rw [show hp.length = ρ.length from hl]
      exact den_nil (g2.val s _ hs hi) l0 w0
    · rw [look_ne (Ne.symm e)] at hv; exact g2'.val s v hs hv
/-- A result that holds a nil slice, told as one of a row of nothing. -/
theorem OkCall.nilRes {C : Kit} {f : Nat} {args : List SV} {hp : List Blk} {K : Bool → SV → List Blk → Prop}
    (h : OkCall C f args hp fun q v hp' => K q v hp' ∨ ∃ l i l0 w0 k, v = .tup l ∧ l[i]? = some .nilslc ∧ (∀ ρ w, BSat ρ none ⟨[], []⟩ w k) ∧ ∃ v2, leV (.tup (l.set i (.slc hp'.length l0 w0 (.lit 0) (.lit 0) (.lit 0)))) v2 ∧ K q v2 (hp' ++ [k])) : OkCall C f args hp K := by
  refine ⟨h.ok, fun ρ w vals hd hs => (h.out ρ w vals hd hs).mono ?_⟩
  rintro e w' ⟨q, ρ', v, c, hp', rfl, k1, k2, k3, k4, k5, hK | ⟨l, i, l0, w0, k, rfl, hi, hk, v2, hle, hK⟩⟩
  · exact ⟨q, ρ', v, c, hp', rfl, k1, k2, k3, k4, k5, hK⟩
  · refine ⟨q, ρ' ++ [none], v2, c, _, rfl, k1.trans (Ext.push _ _), ?_, k3.addNone hk, k4, k5, hK⟩
    cases k2 with
    | tup vs e h =>
      have := h.setNil (l0 := l0) (w0 := w0) i hi
      rw [← k3.len] at this
      exact leV.den (.tup vs e this) hle
theorem OkCall.nilRes1 {C : Kit} {f : Nat} {args : List SV} {hp : List Blk} {K : Bool → SV → List Blk → Prop}
    (h : OkCall C f args hp fun q v hp' => K q v hp' ∨ ∃ l0 w0 k, v = .nilslc ∧ (∀ ρ w, BSat ρ none ⟨[], []⟩ w k) ∧ K q (.slc hp'.length l0 w0 (.lit 0) (.lit 0) (.lit 0)) (hp' ++ [k])) : OkCall C f args hp K := by
  refine ⟨h.ok, fun ρ w vals hd hs => (h.out ρ w vals hd hs).mono ?_⟩
  rintro e w' ⟨q, ρ', v, c, hp', rfl, k1, k2, k3, k4, k5, hK | ⟨l0, w0, k, rfl, hk, hK⟩⟩
  · exact ⟨q, ρ', v, c, hp', rfl, k1, k2, k3, k4, k5, hK⟩
  · refine ⟨q, ρ' ++ [none], _, c, _, rfl, k1.trans (Ext.push _ _), ?_, k3.addNone hk, k4, k5, hK⟩
    have := den_nil k2 l0 w0
    rw [← k3.len] at this
    exact this
end
end Go.Vex
end

/-
  VEX, part W: ranges over maps.
-/
section
namespace Go.Vex
noncomputable section
/-- An iterator over a map. -/
def IT (since : Nat) (seen : Array Nat) (last : Nat) (vs : List Value) (addr : Option (Nat × Nat)) (o : Own) (w : World) : Prop :=
  ∃ b bm, vs = [.map (some bm)] ∧ addr = some (b, 0) ∧ o = ⟨[b], []⟩ ∧ w.heap[b]? = some (.mapIter (some bm) since seen last)
theorem HSat.obj {ρ : Rho} {hp : List Blk} {w : World} (h : HSat ρ hp w) {x : Nat} {ob : Obj} (hx : hp[x]? = some (.obj ob)) : ∃ b, ρ[x]? = some (some (b, 0)) ∧ w.heap[b]? = some ob := by
  obtain ⟨ω, h⟩ := h
  obtain ⟨a, o, ha, ho, b, rfl, rfl, h1, _⟩ := HSat.getO h hx
  exact ⟨b, ha, h1⟩
/-- The map is told as it is. -/
theorem HSat.exact {ρ : Rho} {hp : List Blk} {w : World} (h : HSat ρ hp w) {x : Nat} {ent : List (Value × Value)} (hx : hp[x]? = some (.abs (MP ent))) :
    ∃ b es clock, ρ[x]? = some (some (b, 0)) ∧ w.heap[b]? = some (.map es clock) ∧ es.toList.map (fun e => (e.key, e.val)) = ent ∧ StampOk es clock ∧ HSat ρ (hp.set x (.obj (.map es clock))) w := by
  obtain ⟨ω, h⟩ := h
  obtain ⟨a, o, ha, ho, hs⟩ := HSat.getO h hx
  obtain ⟨b, rfl, rfl, es, clock, h1, h2, h3⟩ := hs w (agree.refl _ _)
  exact ⟨b, es, clock, ha, h1, h2, h3, ω, h.turn ha ho ⟨b, rfl, rfl, h1, rfl⟩ (Nat.le_refl _) fun c _ _ => rfl⟩
theorem BImp.toMP {es : Array MapEntry} {clock : Nat} {ent : List (Value × Value)} (h1 : es.toList.map (fun e => (e.key, e.val)) = ent) (h2 : StampOk es clock) : BImp (.obj (.map es clock)) (.abs (MP ent)) := by
  refine ⟨fun ρ a o w ⟨b, e1, e2, e3, _⟩ w' hw => ⟨b, e1, e2, es, clock, ?_, h1, h2⟩⟩
  rw [hw b (by rw [e2]; simp)]; exact e3
theorem XOp.rangeMP {C : Kit} {fr : Fr} {hp : List Blk} {K : SV → List Blk → Prop} {t kt et : Nat} {kd : TypeDesc} {z : Value} {m : Operand} {x : Nat} {ent : List (Value × Value)} (hT : MapT C t kt et kd z) (em : ev fr hp m = some (.map x)) (hx : hp[x]? = some (.abs (MP ent)))
    (hk : ∀ es clock, es.toList.map (fun e => (e.key, e.val)) = ent → StampOk es clock → K (.p hp.length (.at 0)) (hp.set x (.obj (.map es clock)) ++ [.av [.map x] (IT clock #[] clock)])) : XOp C (.range t m) fr hp K := by
  refine ⟨fun ρ nt a w o ho hf hs => ?_⟩
  obtain ⟨b, es, clock, hb, h1, h2, h3, hs1⟩ := hs.exact hx
  have e1 := den_map (ev_sound hs hf em) hb
  have hl := hs.len
  refine ⟨.pointer (some ⟨w.heap.size, 0, none⟩), w.alloc (.mapIter (some b) clock #[] clock), .inl ?_, ρ ++ [some (w.heap.size, 0)], .p hp.length (.at 0), _, Ext.push _ _, .p w.heap.size 0 (by rw [hl]; simp) rfl, hs1.new (w' := w.alloc (.mapIter (some b) clock #[] clock)) (o := .mapIter (some b) clock #[] clock) (k := .av [.map x] (IT clock #[] clock)) rfl ?_, Kept.alloc _ _, hk es clock h2 h3⟩
  · obtain ⟨dst, op, type, pos, after, guard⟩ := o
    simp only at ho; subst ho
    show (valS (Instr.range t (a.eval m))).run C.P w = _
    rw [e1]
    exact run_valS (run_range_map w t kt et b es clock hT.u h1)
  · refine ⟨[.map (some b)], .cons _ _ rfl (.map b (Ext.push _ _ _ _ hb) rfl) (.nil rfl), fun w' hw => ⟨w.heap.size, b, rfl, rfl, rfl, ?_⟩⟩
    rw [hw w.heap.size (by simp)]
    exact heap_alloc_new w _
theorem run_nextG {P : Program} {w : World} {ty r bm since c0 clock : Nat} {seen : Array Nat} {es : Array MapEntry} (hr : w.heap[r]? = some (.mapIter (some bm) since seen c0)) (hb : w.heap[bm]? = some (.map es clock)) (hold : ∀ x ∈ es.toList, x.born < since) (hsc : since ≤ c0) :
    ((leftOf es seen).size = 0 ∧ (Instr.next (.pointer (some ⟨r, 0, none⟩)) false ty).run P w = .ok (.tuple #[.bool false]) w) ∨
    ∃ e ∈ (leftOf es seen).toList, ∃ n, (Instr.next (.pointer (some ⟨r, 0, none⟩)) false ty).run P w = .ok (.tuple #[.bool true, e.key, e.val]) ((w.drewN n).putObj r (.mapIter (some bm) since (seen.push e.born) clock)) := by
  simp only [Instr.next, getObj, Sem.run_bind, Sem.run, hr, hb, Result.andThen, next_test_false seen es since c0 hold hsc, Bool.false_eq_true, if_false]
  unfold leftOf
  have hmem : ∀ x ∈ (Array.filter (fun e => !seen.contains e.born) es).toList, x.born < since := fun x hx => hold x (by simp at hx ⊢; exact hx.1)
  generalize Array.filter (fun e => !seen.contains e.born) es = L at hmem ⊢
  have e1 : L.filter (fun x => decide (x.born < since)) = L := Array.filter_eq_self.2 (fun x hx => by simpa using hmem x (by simpa using hx))
  have e2 : L.filter (fun x => decide (x.born ≥ since)) = #[] := by
    rw [Array.filter_eq_empty_iff]
    intro x hx
    have := hmem x (by simpa using hx)
    simp
    omega
  simp only [e1, e2, Array.append_empty]
  by_cases h0 : L.size = 0
  · left
    have : L = #[] := Array.eq_empty_of_size_eq_zero h0
    subst this
    refine ⟨rfl, ?_⟩
    simp [choose, Sem.run, Question.forced]
  · right
    have hne : L.isEmpty = false := by simp [Array.isEmpty, h0]
    simp only [hne, Bool.false_eq_true, if_false, Array.empty_append, Array.size_map]
    have hch : ∃ (j : Nat) (n : Nat), j < L.size ∧ (choose (Question.mapNext L.size)).run P w = .ok j (w.drewN n) := by
      by_cases hf : L.size ≤ 1
      · exact ⟨0, 0, by omega, by simp [choose, Sem.run, Question.forced, hf]; rfl⟩
      · exact ⟨_, 1, Nat.mod_lt _ (by omega), by
          simp only [choose, Sem.run, Question.forced, decide_eq_true_eq, hf, if_false, Question.cut]
          rfl⟩
    obtain ⟨j, n, hj, hrun⟩ := hch
    refine ⟨L[j], by simp, n, ?_⟩
    have hset : ∀ (o' : Obj), (setObj r o').run P (w.drewN n) = .ok () ((w.drewN n).putObj r o') := fun o' => run_setObj' (w := w.drewN n) o' hr
    simp only [hrun, Array.getElem?_map, Array.getElem?_eq_getElem hj, Option.map_some, Sem.run_bind, hset, Result.andThen]
    rfl
theorem IT.at {ρ : Rho} {hp : List Blk} {w : World} (h : HSat ρ hp w) {x z : Nat} {since last : Nat} {seen : Array Nat} {ob : Obj} (hz : hp[z]? = some (.av [.map x] (IT since seen last))) (hx : hp[x]? = some (.obj ob)) :
    ∃ r bm, ρ[z]? = some (some (r, 0)) ∧ w.heap[bm]? = some ob ∧ w.heap[r]? = some (.mapIter (some bm) since seen last) ∧ ∀ since' seen' last', HSat ρ (hp.set z (.av [.map x] (IT since' seen' last'))) (w.putObj r (.mapIter (some bm) since' seen' last')) := by
  obtain ⟨bm, hbm, h1⟩ := h.obj hx
  obtain ⟨ω, h⟩ := h
  obtain ⟨a, o, ha, ho, vs, hv, hs⟩ := HSat.getO h hz
  have hvs : vs = [.map (some bm)] := by
    cases hv with
    | cons c c2 e h1 h2 =>
      subst e
      rw [den_map h1 hbm]
      cases h2 with | nil e => rw [e]
  subst hvs
  obtain ⟨r, bm', e, rfl, rfl, h2⟩ := hs w (agree.refl _ _)
  simp only [List.cons.injEq, Value.map.injEq, Option.some.injEq, and_true] at e
  subst e
  refine ⟨r, bm, ha, h1, h2, fun s1 s2 s3 => ⟨ω, h.turn ha ho ⟨_, hv, fun w' hw => ⟨r, bm, rfl, rfl, rfl, ?_⟩⟩ (by simp) fun c _ hc => ?_⟩⟩
  · have hbl : r < w.heap.size := h.bnd z _ ho r (.inl (by simp))
    rw [hw r (.inl (by simp)), World.putObj_heap_same hbl]
  · exact World.putObj_heap_other (by simpa using hc)
theorem XOp.nextMP {C : Kit} {fr : Fr} {hp : List Blk} {K : SV → List Blk → Prop} {i : Operand} {x z : Nat} {since last clock : Nat} {seen : Array Nat} {es : Array MapEntry} (ei : ev fr hp i = some (.p z (.at 0))) (hz : hp[z]? = some (.av [.map x] (IT since seen last))) (hx : hp[x]? = some (.obj (.map es clock)))
    (hold : ∀ x ∈ es.toList, x.born < since) (hsc : since ≤ last)
    (h0 : (leftOf es seen).size = 0 → K (.tup [.b (.lit false)]) hp)
    (h1 : ∀ e ∈ (leftOf es seen).toList, K (.tup [.b (.lit true), .raw e.key, .raw e.val]) (hp.set z (.av [.map x] (IT since (seen.push e.born) clock)))) : XOp C (.next i false) fr hp K := by
  refine ⟨fun ρ nt a w o ho hf hs => ?_⟩
  obtain ⟨r, bm, hr, g1, g2, g3⟩ := IT.at hs hz hx
  have e1 : a.eval i = .pointer (some ⟨r, 0, none⟩) := by
    cases ev_sound hs hf ei with
    | p b o0 hx' hc => rw [hr] at hx'; cases hx'; exact hc
  obtain ⟨dst, op, type, pos, after, guard⟩ := o
  simp only at ho; subst ho
  rcases run_nextG (P := C.P) (ty := type) g2 g1 hold hsc with ⟨k1, k2⟩ | ⟨e, k1, n, k2⟩
  · refine ⟨_, w, .inl ?_, ρ, .tup [.b (.lit false)], hp, Ext.refl _, .tup _ rfl (.cons _ _ rfl (.b rfl) (.nil rfl)), hs, Kept.refl _, h0 k1⟩
    show (valS (Instr.next (a.eval i) false type)).run C.P w = _
    rw [e1]; exact run_valS k2
  · refine ⟨_, (w.drewN n).putObj r (.mapIter (some bm) since (seen.push e.born) clock), .inl ?_, ρ, .tup [.b (.lit true), .raw e.key, .raw e.val], _, Ext.refl _, .tup _ rfl (.cons _ _ rfl (.b rfl) (.cons _ _ rfl (.raw rfl) (.cons _ _ rfl (.raw rfl) (.nil rfl)))), ?_, (Kept.drewN w n).trans (Kept.put _ _ _), h1 e k1⟩
    · show (valS (Instr.next (a.eval i) false type)).run C.P w = _
      rw [e1]; exact run_valS k2
    · obtain ⟨r', bm', hr', g1', g2', g3'⟩ := IT.at (hs.drewN n) hz hx
      rw [hr] at hr'; cases hr'
      have : bm' = bm := by
        have e := g2'
        rw [show (w.drewN n).heap[r]? = w.heap[r]? from rfl, g2] at e
        simp only [Option.some.injEq, Obj.mapIter.injEq] at e
        exact e.1.symm
      subst this
      exact g3' _ _ _
theorem XOp.entryMP {C : Kit} {fr : Fr} {hp : List Blk} {K : SV → List Blk → Prop} {i : Operand} {x z : Nat} {since clock : Nat} {seen s2 : Array Nat} {es : Array MapEntry} {e : MapEntry} (hs2 : seen.push e.born = s2) (ei : ev fr hp i = some (.p z (.at 0))) (hz : hp[z]? = some (.av [.map x] (IT since s2 clock))) (hx : hp[x]? = some (.obj (.map es clock)))
    (he : e ∈ es.toList) (hn : (es.toList.map (·.born)).Nodup) (v : SV) (hv : ∀ ρ, Den ρ v (.tuple #[e.key, e.val])) (hk : K v hp) : XOp C (.entry i) fr hp K := by
  subst hs2
  refine ⟨fun ρ nt a w o ho hf hs => ?_⟩
  obtain ⟨r, bm, hr, g1, g2, g3⟩ := IT.at hs hz hx
  have e1 : a.eval i = .pointer (some ⟨r, 0, none⟩) := by
    cases ev_sound hs hf ei with
    | p b o0 hx' hc => rw [hr] at hx'; cases hx'; exact hc
  obtain ⟨dst, op, type, pos, after, guard⟩ := o
  simp only at ho; subst ho
  refine ⟨_, w, .inl ?_, ρ, v, hp, Ext.refl _, hv ρ, hs, Kept.refl _, hk⟩
  show (valS (Instr.entry (a.eval i))).run C.P w = _
  rw [e1]
  refine run_valS ?_
  have hf : es.find? (·.born == e.born) = some e := by rw [← Array.find?_toList]; exact find_born e es.toList hn he
  simp only [Instr.entry, getObj, Sem.run_bind, Sem.run, g1, g2, Result.andThen, Array.back?_push, bne_self_eq_false, Bool.false_eq_true, if_false, hf]
  rfl
end
end Go.Vex
end

/-
  Bits of words, as quotients and remainders. Plain Lean.
-/
section
namespace Go.Vex
theorem wrap_u32 (n : Int) : IntKind.u32.wrap n = n % 4294967296 := by simp [IntKind.wrap, IntKind.bits, IntKind.signed]
theorem wrap_u64 (n : Int) : IntKind.u64.wrap n = n % 18446744073709551616 := by simp [IntKind.wrap, IntKind.bits, IntKind.signed]
theorem wrap_u8 (n : Int) : IntKind.u8.wrap n = n % 256 := by simp [IntKind.wrap, IntKind.bits, IntKind.signed]
theorem wrap_u16 (n : Int) : IntKind.u16.wrap n = n % 65536 := by simp [IntKind.wrap, IntKind.bits, IntKind.signed]
theorem wrap_i32 (n : Int) : IntKind.i32.wrap n = if n % 4294967296 ≥ 2147483648 then n % 4294967296 - 4294967296 else n % 4294967296 := by simp [IntKind.wrap, IntKind.bits, IntKind.signed]
theorem wrap_i64' (n : Int) : IntKind.i64.wrap n = if n % 18446744073709551616 ≥ 9223372036854775808 then n % 18446744073709551616 - 18446744073709551616 else n % 18446744073709551616 := by simp [IntKind.wrap, IntKind.bits, IntKind.signed]
theorem shrI_u32 (a : Int) (n : Nat) (hn : n ≤ 32) : shrI .u32 a n = a / 2 ^ n := by
  rw [shrI_eq]
  have : min (Int.toNat (n : Int)) IntKind.u32.bits = n := by simp [IntKind.bits]; omega
  rw [this, Int.fdiv_eq_ediv_of_nonneg _ (Int.le_of_lt (Int.pow_pos (by decide)))]
theorem and_u32 {a b : Nat} (ha : a < 2 ^ 32) (hb : b < 2 ^ 32) : andI .u32 a b = ((a &&& b : Nat) : Int) := by
  rw [andI_eq]
  show IntKind.u32.wrap ((BitVec.ofInt 32 (a : Int) &&& BitVec.ofInt 32 (b : Int)).toNat : Int) = _
  simp only [BitVec.ofInt_natCast, BitVec.toNat_and, BitVec.toNat_ofNat]
  rw [Nat.mod_eq_of_lt ha, Nat.mod_eq_of_lt hb, wrap_u32]
  have : a &&& b ≤ a := Nat.and_le_left
  omega
theorem or_u32 {a b : Nat} (ha : a < 2 ^ 32) (hb : b < 2 ^ 32) : orI .u32 a b = ((a ||| b : Nat) : Int) := by
  rw [orI_eq]
  show IntKind.u32.wrap ((BitVec.ofInt 32 (a : Int) ||| BitVec.ofInt 32 (b : Int)).toNat : Int) = _
  simp only [BitVec.ofInt_natCast, BitVec.toNat_or, BitVec.toNat_ofNat]
  rw [Nat.mod_eq_of_lt ha, Nat.mod_eq_of_lt hb, wrap_u32]
  have : a ||| b < 2 ^ 32 := Nat.or_lt_two_pow ha hb
  omega
theorem xor_u32 {a b : Nat} (ha : a < 2 ^ 32) (hb : b < 2 ^ 32) : xorI .u32 a b = ((a ^^^ b : Nat) : Int) := by
  rw [xorI_eq]
  show IntKind.u32.wrap ((BitVec.ofInt 32 (a : Int) ^^^ BitVec.ofInt 32 (b : Int)).toNat : Int) = _
  simp only [BitVec.ofInt_natCast, BitVec.toNat_xor, BitVec.toNat_ofNat]
  rw [Nat.mod_eq_of_lt ha, Nat.mod_eq_of_lt hb, wrap_u32]
  have : a ^^^ b < 2 ^ 32 := Nat.xor_lt_two_pow ha hb
  omega
theorem mask_u32 {a : Int} (k : Nat) (hk : k ≤ 32) (h0 : 0 ≤ a) (h1 : a < 4294967296) : andI .u32 a (2 ^ k - 1 : Nat) = a % (2 ^ k : Nat) := by
  obtain ⟨n, rfl⟩ := Int.eq_ofNat_of_zero_le h0
  have hb : 2 ^ k - 1 < 2 ^ 32 := Nat.lt_of_lt_of_le (Nat.sub_lt (Nat.two_pow_pos k) (by decide)) (Nat.pow_le_pow_right (by decide) hk)
  rw [and_u32 (by omega) hb, Nat.and_two_pow_sub_one_eq_mod]
  simp
/-- Four bits at k are cleared of a number below 2^(k+4). -/
theorem clr_u32 {a : Int} (k : Nat) (hk : k + 4 ≤ 32) (h0 : 0 ≤ a) (h1 : a < (2 ^ (k + 4) : Nat)) : clrI .u32 a (15 * 2 ^ k : Nat) = a % (2 ^ k : Nat) := by
  obtain ⟨n, rfl⟩ := Int.eq_ofNat_of_zero_le h0
  have hn : n < 2 ^ (k + 4) := by omega
  have hn32 : n < 2 ^ 32 := Nat.lt_of_lt_of_le hn (Nat.pow_le_pow_right (by decide) hk)
  have hm : 15 * 2 ^ k < 2 ^ 32 := by
    have : 2 ^ (k + 4) ≤ 2 ^ 32 := Nat.pow_le_pow_right (by decide) hk
    have : (2 : Nat) ^ (k + 4) = 16 * 2 ^ k := by rw [Nat.pow_add]; omega
    have := Nat.two_pow_pos k
    omega
  rw [clrI_eq]
  show IntKind.u32.wrap ((BitVec.ofInt 32 (n : Int) &&& ~~~ BitVec.ofInt 32 ((15 * 2 ^ k : Nat) : Int)).toNat : Int) = _
  rw [BitVec.ofInt_natCast, BitVec.ofInt_natCast]
  have e : (BitVec.ofNat 32 n &&& ~~~BitVec.ofNat 32 (15 * 2 ^ k)) = BitVec.ofNat 32 (n % 2 ^ k) := by
    apply BitVec.eq_of_getLsbD_eq
    intro i hi
    simp only [BitVec.getLsbD_and, BitVec.getLsbD_not, BitVec.getLsbD_ofNat, hi, decide_true, Bool.true_and, Nat.testBit_mod_two_pow]
    rw [Nat.mul_comm, Nat.testBit_two_pow_mul]
    by_cases h : i < k
    · simp [h, Nat.not_le.2 h]
    · have hle : k ≤ i := by omega
      simp only [h, decide_false, Bool.false_and, hle, decide_true, Bool.true_and]
      by_cases h4 : i - k < 4
      · have : Nat.testBit 15 (i - k) = true := by
          have : i - k = 0 ∨ i - k = 1 ∨ i - k = 2 ∨ i - k = 3 := by omega
          rcases this with h | h | h | h <;> rw [h] <;> decide
        rw [this]; simp
      · rw [Nat.testBit_lt_two_pow (Nat.lt_of_lt_of_le hn (Nat.pow_le_pow_right (by decide) (by omega)))]; simp
  rw [e, BitVec.toNat_ofNat, wrap_u32]
  have h2 : n % 2 ^ k ≤ n := Nat.mod_le _ _
  rw [Nat.mod_eq_of_lt (show n % 2 ^ k < 2 ^ 32 by omega), ← Int.natCast_emod]
  generalize n % 2 ^ k = m at *
  omega
end Go.Vex
end

/-
  The types of this seat's program, as a table; its methods of pointers.
-/
section
namespace Go.Proofs.YtafhmkedblpdlaaDoor
open Go Go.Vex
set_option maxRecDepth 20000
def t1 : TI := ⟨.func, 1, 8, [.nilfn], []⟩
def t2 : TI := ⟨.int .i64, 1, 8, [.i .i64 (.lit 0)], []⟩
def t3 : TI := ⟨.int .i64, 1, 8, [.i .i64 (.lit 0)], []⟩
def t4 : TI := ⟨.bool, 1, 1, [.b (.lit false)], []⟩
def t5 : TI := ⟨.int .u8, 1, 1, [.i .u8 (.lit 0)], []⟩
def t6 : TI := ⟨.int .u8, 1, 1, [.i .u8 (.lit 0)], []⟩
def t7 : TI := ⟨.struct [(0, 2), (1, 3), (2, 4), (3, 6)], 4, 24, [.i .i64 (.lit 0), .i .i64 (.lit 0), .b (.lit false), .i .u8 (.lit 0)], [some .i64, some .i64, none, some .u8]⟩
def t8 : TI := ⟨.struct [(0, 2), (1, 3), (2, 4), (3, 6)], 4, 24, [.i .i64 (.lit 0), .i .i64 (.lit 0), .b (.lit false), .i .u8 (.lit 0)], [some .i64, some .i64, none, some .u8]⟩
def t9 : TI := ⟨.str, 1, 16, [.str ⟨#[]⟩], []⟩
def t10 : TI := ⟨.str, 1, 16, [.str ⟨#[]⟩], []⟩
def t11 : TI := ⟨.str, 1, 16, [.str ⟨#[]⟩], []⟩
def t12 : TI := ⟨.int .u64, 1, 8, [.i .u64 (.lit 0)], []⟩
def t13 : TI := ⟨.struct [(0, 9), (1, 12)], 2, 24, [.str ⟨#[]⟩, .i .u64 (.lit 0)], []⟩
def t14 : TI := ⟨.struct [(0, 9), (1, 12)], 2, 24, [.str ⟨#[]⟩, .i .u64 (.lit 0)], []⟩
def t15 : TI := ⟨.ptr 197, 1, 8, [.nilp], []⟩
def t16 : TI := ⟨.ptr 200, 1, 8, [.nilp], []⟩
def t17 : TI := ⟨.ptr 208, 1, 8, [.nilp], []⟩
def t18 : TI := ⟨.struct [(0, 17)], 1, 8, [.nilp], []⟩
def t19 : TI := ⟨.struct [(0, 17)], 1, 8, [.nilp], []⟩
def t20 : TI := ⟨.iface, 1, 16, [.nilifc], []⟩
def t21 : TI := ⟨.int .i32, 1, 4, [.i .i32 (.lit 0)], []⟩
def t22 : TI := ⟨.int .u32, 1, 4, [.i .u32 (.lit 0)], []⟩
def t23 : TI := ⟨.func, 1, 8, [.nilfn], []⟩
def t24 : TI := ⟨.func, 1, 8, [.nilfn], []⟩
def t25 : TI := ⟨.slice 26, 1, 24, [.nilslc], []⟩
def t26 : TI := ⟨.ptr 42, 1, 8, [.nilp], []⟩
def t27 : TI := ⟨.func, 1, 8, [.nilfn], []⟩
def t28 : TI := ⟨.int .u8, 1, 1, [.i .u8 (.lit 0)], []⟩
def t29 : TI := ⟨.struct [(0, 22), (1, 22), (2, 3), (3, 28)], 4, 24, [.i .u32 (.lit 0), .i .u32 (.lit 0), .i .i64 (.lit 0), .i .u8 (.lit 0)], [some .u32, some .u32, some .i64, some .u8]⟩
def t30 : TI := ⟨.struct [(0, 22), (1, 22), (2, 3), (3, 28)], 4, 24, [.i .u32 (.lit 0), .i .u32 (.lit 0), .i .i64 (.lit 0), .i .u8 (.lit 0)], [some .u32, some .u32, some .i64, some .u8]⟩
def t31 : TI := ⟨.slice 30, 1, 24, [.nilslc], []⟩
def t32 : TI := ⟨.slice 31, 1, 24, [.nilslc], []⟩
def t33 : TI := ⟨.struct [(0, 3), (1, 3), (2, 3)], 3, 24, [.i .i64 (.lit 0), .i .i64 (.lit 0), .i .i64 (.lit 0)], [some .i64, some .i64, some .i64]⟩
def t34 : TI := ⟨.struct [(0, 3), (1, 3), (2, 3)], 3, 24, [.i .i64 (.lit 0), .i .i64 (.lit 0), .i .i64 (.lit 0)], [some .i64, some .i64, some .i64]⟩
def t35 : TI := ⟨.func, 1, 8, [.nilfn], []⟩
def t36 : TI := ⟨.int .i64, 1, 8, [.i .i64 (.lit 0)], []⟩
def t37 : TI := ⟨.ptr 116, 1, 8, [.nilp], []⟩
def t38 : TI := ⟨.ptr 134, 1, 8, [.nilp], []⟩
def t39 : TI := ⟨.ptr 138, 1, 8, [.nilp], []⟩
def t40 : TI := ⟨.ptr 70, 1, 8, [.nilp], []⟩
def t41 : TI := ⟨.struct [(0, 37), (1, 38), (2, 39), (3, 40)], 4, 32, [.nilp, .nilp, .nilp, .nilp], []⟩
def t42 : TI := ⟨.struct [(0, 37), (1, 38), (2, 39), (3, 40)], 4, 32, [.nilp, .nilp, .nilp, .nilp], []⟩
def t43 : TI := ⟨.func, 1, 8, [.nilfn], []⟩
def t44 : TI := ⟨.int .i64, 1, 8, [.i .i64 (.lit 0)], []⟩
def t46 : TI := ⟨.func, 1, 8, [.nilfn], []⟩
def t47 : TI := ⟨.func, 1, 8, [.nilfn], []⟩
def t49 : TI := ⟨.func, 1, 8, [.nilfn], []⟩
def t50 : TI := ⟨.func, 1, 8, [.nilfn], []⟩
def t51 : TI := ⟨.func, 1, 8, [.nilfn], []⟩
def t52 : TI := ⟨.ptr 82, 1, 8, [.nilp], []⟩
def t54 : TI := ⟨.func, 1, 8, [.nilfn], []⟩
def t55 : TI := ⟨.ptr 87, 1, 8, [.nilp], []⟩
def t57 : TI := ⟨.func, 1, 8, [.nilfn], []⟩
def t58 : TI := ⟨.func, 1, 8, [.nilfn], []⟩
def t59 : TI := ⟨.func, 1, 8, [.nilfn], []⟩
def t60 : TI := ⟨.func, 1, 8, [.nilfn], []⟩
def t61 : TI := ⟨.func, 1, 8, [.nilfn], []⟩
def t62 : TI := ⟨.func, 1, 8, [.nilfn], []⟩
def t63 : TI := ⟨.slice 5, 1, 24, [.nilslc], []⟩
def t64 : TI := ⟨.int .u64, 1, 8, [.i .u64 (.lit 0)], []⟩
def t65 : TI := ⟨.func, 1, 8, [.nilfn], []⟩
def t66 : TI := ⟨.int .i64, 1, 8, [.i .i64 (.lit 0)], []⟩
def t67 : TI := ⟨.func, 1, 8, [.nilfn], []⟩
def t68 : TI := ⟨.map 3 22, 1, 8, [.nilmap], []⟩
def t69 : TI := ⟨.struct [(0, 37), (1, 38), (2, 39), (3, 68)], 4, 32, [.nilp, .nilp, .nilp, .nilmap], []⟩
def t70 : TI := ⟨.struct [(0, 37), (1, 38), (2, 39), (3, 68)], 4, 32, [.nilp, .nilp, .nilp, .nilmap], []⟩
def t71 : TI := ⟨.func, 1, 8, [.nilfn], []⟩
def t73 : TI := ⟨.func, 1, 8, [.nilfn], []⟩
def t75 : TI := ⟨.func, 1, 8, [.nilfn], []⟩
def t77 : TI := ⟨.func, 1, 8, [.nilfn], []⟩
def t79 : TI := ⟨.func, 1, 8, [.nilfn], []⟩
def t80 : TI := ⟨.func, 1, 8, [.nilfn], []⟩
def t81 : TI := ⟨.struct [(0, 37), (1, 22), (2, 3), (3, 3), (4, 4)], 5, 40, [.nilp, .i .u32 (.lit 0), .i .i64 (.lit 0), .i .i64 (.lit 0), .b (.lit false)], []⟩
def t82 : TI := ⟨.struct [(0, 37), (1, 22), (2, 3), (3, 3), (4, 4)], 5, 40, [.nilp, .i .u32 (.lit 0), .i .i64 (.lit 0), .i .i64 (.lit 0), .b (.lit false)], []⟩
def t84 : TI := ⟨.func, 1, 8, [.nilfn], []⟩
def t85 : TI := ⟨.func, 1, 8, [.nilfn], []⟩
def t86 : TI := ⟨.struct [(0, 52), (1, 22)], 2, 16, [.nilp, .i .u32 (.lit 0)], []⟩
def t87 : TI := ⟨.struct [(0, 52), (1, 22)], 2, 16, [.nilp, .i .u32 (.lit 0)], []⟩
def t88 : TI := ⟨.func, 1, 8, [.nilfn], []⟩
def t89 : TI := ⟨.func, 1, 8, [.nilfn], []⟩
def t90 : TI := ⟨.func, 1, 8, [.nilfn], []⟩
def t91 : TI := ⟨.map 98 99, 1, 8, [.nilmap], []⟩
def t92 : TI := ⟨.map 22 22, 1, 8, [.nilmap], []⟩
def t93 : TI := ⟨.slice 22, 1, 24, [.nilslc], []⟩
def t94 : TI := ⟨.func, 1, 8, [.nilfn], []⟩
def t95 : TI := ⟨.func, 1, 8, [.nilfn], []⟩
def t96 : TI := ⟨.func, 1, 8, [.nilfn], []⟩
def t97 : TI := ⟨.struct [(0, 22), (1, 22)], 2, 8, [.i .u32 (.lit 0), .i .u32 (.lit 0)], [some .u32, some .u32]⟩
def t98 : TI := ⟨.struct [(0, 22), (1, 22)], 2, 8, [.i .u32 (.lit 0), .i .u32 (.lit 0)], [some .u32, some .u32]⟩
def t99 : TI := ⟨.struct [], 0, 0, [], []⟩
def t102 : TI := ⟨.func, 1, 8, [.nilfn], []⟩
def t103 : TI := ⟨.int .i64, 1, 8, [.i .i64 (.lit 0)], []⟩
def t104 : TI := ⟨.struct [(0, 103), (1, 28), (2, 22)], 3, 16, [.i .i64 (.lit 0), .i .u8 (.lit 0), .i .u32 (.lit 0)], [some .i64, some .u8, some .u32]⟩
def t105 : TI := ⟨.struct [(0, 103), (1, 28), (2, 22)], 3, 16, [.i .i64 (.lit 0), .i .u8 (.lit 0), .i .u32 (.lit 0)], [some .i64, some .u8, some .u32]⟩
def t107 : TI := ⟨.func, 1, 8, [.nilfn], []⟩
def t108 : TI := ⟨.func, 1, 8, [.nilfn], []⟩
def t109 : TI := ⟨.func, 1, 8, [.nilfn], []⟩
def t110 : TI := ⟨.func, 1, 8, [.nilfn], []⟩
def t111 : TI := ⟨.func, 1, 8, [.nilfn], []⟩
def t112 : TI := ⟨.func, 1, 8, [.nilfn], []⟩
def t113 : TI := ⟨.ptr 118, 1, 8, [.nilp], []⟩
def t114 : TI := ⟨.map 22 113, 1, 8, [.nilmap], []⟩
def t115 : TI := ⟨.struct [(0, 3), (1, 114)], 2, 16, [.i .i64 (.lit 0), .nilmap], []⟩
def t116 : TI := ⟨.struct [(0, 3), (1, 114)], 2, 16, [.i .i64 (.lit 0), .nilmap], []⟩
noncomputable def t117 : TI := ⟨.array 4096 5, 4096, 4096, [.ints .u8 (.lit 4096) (zerosI 4096)], []⟩
def t117o : TI := ⟨.array 4096 5, 4096, 4096, [.ints .u8 (.lit 4096) (List.replicate 4096 0)], []⟩
theorem t117_eq : t117 = t117o := by unfold t117 t117o; rw [zerosI_eq]
noncomputable def t118 : TI := ⟨.array 4096 5, 4096, 4096, [.ints .u8 (.lit 4096) (zerosI 4096)], []⟩
def t118o : TI := ⟨.array 4096 5, 4096, 4096, [.ints .u8 (.lit 4096) (List.replicate 4096 0)], []⟩
theorem t118_eq : t118 = t118o := by unfold t118 t118o; rw [zerosI_eq]
def t119 : TI := ⟨.func, 1, 8, [.nilfn], []⟩
def t120 : TI := ⟨.func, 1, 8, [.nilfn], []⟩
def t121 : TI := ⟨.func, 1, 8, [.nilfn], []⟩
def t122 : TI := ⟨.func, 1, 8, [.nilfn], []⟩
def t123 : TI := ⟨.struct [(0, 4), (1, 4), (2, 3)], 3, 16, [.b (.lit false), .b (.lit false), .i .i64 (.lit 0)], [none, none, some .i64]⟩
def t124 : TI := ⟨.struct [(0, 4), (1, 4), (2, 3)], 3, 16, [.b (.lit false), .b (.lit false), .i .i64 (.lit 0)], [none, none, some .i64]⟩
def t125 : TI := ⟨.func, 1, 8, [.nilfn], []⟩
def t126 : TI := ⟨.func, 1, 8, [.nilfn], []⟩
def t127 : TI := ⟨.struct [(0, 22), (1, 4)], 2, 8, [.i .u32 (.lit 0), .b (.lit false)], [some .u32, none]⟩
def t128 : TI := ⟨.struct [(0, 22), (1, 4)], 2, 8, [.i .u32 (.lit 0), .b (.lit false)], [some .u32, none]⟩
def t129 : TI := ⟨.array 8 128, 16, 64, [.i .u32 (.lit 0), .b (.lit false), .i .u32 (.lit 0), .b (.lit false), .i .u32 (.lit 0), .b (.lit false), .i .u32 (.lit 0), .b (.lit false), .i .u32 (.lit 0), .b (.lit false), .i .u32 (.lit 0), .b (.lit false), .i .u32 (.lit 0), .b (.lit false), .i .u32 (.lit 0), .b (.lit false)], [some .u32, none, some .u32, none, some .u32, none, some .u32, none, some .u32, none, some .u32, none, some .u32, none, some .u32, none]⟩
def t130 : TI := ⟨.struct [(0, 129), (16, 3)], 17, 72, [.i .u32 (.lit 0), .b (.lit false), .i .u32 (.lit 0), .b (.lit false), .i .u32 (.lit 0), .b (.lit false), .i .u32 (.lit 0), .b (.lit false), .i .u32 (.lit 0), .b (.lit false), .i .u32 (.lit 0), .b (.lit false), .i .u32 (.lit 0), .b (.lit false), .i .u32 (.lit 0), .b (.lit false), .i .i64 (.lit 0)], [some .u32, none, some .u32, none, some .u32, none, some .u32, none, some .u32, none, some .u32, none, some .u32, none, some .u32, none, some .i64]⟩
def t131 : TI := ⟨.struct [(0, 129), (16, 3)], 17, 72, [.i .u32 (.lit 0), .b (.lit false), .i .u32 (.lit 0), .b (.lit false), .i .u32 (.lit 0), .b (.lit false), .i .u32 (.lit 0), .b (.lit false), .i .u32 (.lit 0), .b (.lit false), .i .u32 (.lit 0), .b (.lit false), .i .u32 (.lit 0), .b (.lit false), .i .u32 (.lit 0), .b (.lit false), .i .i64 (.lit 0)], [some .u32, none, some .u32, none, some .u32, none, some .u32, none, some .u32, none, some .u32, none, some .u32, none, some .u32, none, some .i64]⟩
def t132 : TI := ⟨.array 256 131, 4352, 18432, [.rows 17 (.lit 256) (fun _ => [.i .u32 (.lit 0), .b (.lit false), .i .u32 (.lit 0), .b (.lit false), .i .u32 (.lit 0), .b (.lit false), .i .u32 (.lit 0), .b (.lit false), .i .u32 (.lit 0), .b (.lit false), .i .u32 (.lit 0), .b (.lit false), .i .u32 (.lit 0), .b (.lit false), .i .u32 (.lit 0), .b (.lit false), .i .i64 (.lit 0)])], []⟩
def t133 : TI := ⟨.struct [(0, 34), (3, 132)], 4355, 18456, [.i .i64 (.lit 0), .i .i64 (.lit 0), .i .i64 (.lit 0), .rows 17 (.lit 256) (fun _ => [.i .u32 (.lit 0), .b (.lit false), .i .u32 (.lit 0), .b (.lit false), .i .u32 (.lit 0), .b (.lit false), .i .u32 (.lit 0), .b (.lit false), .i .u32 (.lit 0), .b (.lit false), .i .u32 (.lit 0), .b (.lit false), .i .u32 (.lit 0), .b (.lit false), .i .u32 (.lit 0), .b (.lit false), .i .i64 (.lit 0)])], []⟩
def t134 : TI := ⟨.struct [(0, 34), (3, 132)], 4355, 18456, [.i .i64 (.lit 0), .i .i64 (.lit 0), .i .i64 (.lit 0), .rows 17 (.lit 256) (fun _ => [.i .u32 (.lit 0), .b (.lit false), .i .u32 (.lit 0), .b (.lit false), .i .u32 (.lit 0), .b (.lit false), .i .u32 (.lit 0), .b (.lit false), .i .u32 (.lit 0), .b (.lit false), .i .u32 (.lit 0), .b (.lit false), .i .u32 (.lit 0), .b (.lit false), .i .u32 (.lit 0), .b (.lit false), .i .i64 (.lit 0)])], []⟩
def t135 : TI := ⟨.map 148 174, 1, 8, [.nilmap], []⟩
def t136 : TI := ⟨.int .u64, 1, 8, [.i .u64 (.lit 0)], []⟩
def t137 : TI := ⟨.struct [(0, 3), (1, 135), (2, 136)], 3, 24, [.i .i64 (.lit 0), .nilmap, .i .u64 (.lit 0)], []⟩
def t138 : TI := ⟨.struct [(0, 3), (1, 135), (2, 136)], 3, 24, [.i .i64 (.lit 0), .nilmap, .i .u64 (.lit 0)], []⟩
def t139 : TI := ⟨.func, 1, 8, [.nilfn], []⟩
def t140 : TI := ⟨.func, 1, 8, [.nilfn], []⟩
def t141 : TI := ⟨.func, 1, 8, [.nilfn], []⟩
def t142 : TI := ⟨.func, 1, 8, [.nilfn], []⟩
def t143 : TI := ⟨.func, 1, 8, [.nilfn], []⟩
def t144 : TI := ⟨.func, 1, 8, [.nilfn], []⟩
def t145 : TI := ⟨.func, 1, 8, [.nilfn], []⟩
def t146 : TI := ⟨.slice 3, 1, 24, [.nilslc], []⟩
def t147 : TI := ⟨.struct [(0, 3), (1, 22)], 2, 16, [.i .i64 (.lit 0), .i .u32 (.lit 0)], [some .i64, some .u32]⟩
def t148 : TI := ⟨.struct [(0, 3), (1, 22)], 2, 16, [.i .i64 (.lit 0), .i .u32 (.lit 0)], [some .i64, some .u32]⟩
def t149 : TI := ⟨.func, 1, 8, [.nilfn], []⟩
def t150 : TI := ⟨.func, 1, 8, [.nilfn], []⟩
def t152 : TI := ⟨.struct [(0, 22), (1, 28)], 2, 8, [.i .u32 (.lit 0), .i .u8 (.lit 0)], [some .u32, some .u8]⟩
def t153 : TI := ⟨.struct [(0, 22), (1, 28)], 2, 8, [.i .u32 (.lit 0), .i .u8 (.lit 0)], [some .u32, some .u8]⟩
def t155 : TI := ⟨.func, 1, 8, [.nilfn], []⟩
def t156 : TI := ⟨.func, 1, 8, [.nilfn], []⟩
def t157 : TI := ⟨.slice 161, 1, 24, [.nilslc], []⟩
def t159 : TI := ⟨.func, 1, 8, [.nilfn], []⟩
def t160 : TI := ⟨.struct [(0, 22), (1, 22)], 2, 8, [.i .u32 (.lit 0), .i .u32 (.lit 0)], [some .u32, some .u32]⟩
def t161 : TI := ⟨.struct [(0, 22), (1, 22)], 2, 8, [.i .u32 (.lit 0), .i .u32 (.lit 0)], [some .u32, some .u32]⟩
def t163 : TI := ⟨.func, 1, 8, [.nilfn], []⟩
def t165 : TI := ⟨.func, 1, 8, [.nilfn], []⟩
def t166 : TI := ⟨.ptr 131, 1, 8, [.nilp], []⟩
def t167 : TI := ⟨.func, 1, 8, [.nilfn], []⟩
def t168 : TI := ⟨.func, 1, 8, [.nilfn], []⟩
def t169 : TI := ⟨.func, 1, 8, [.nilfn], []⟩
def t170 : TI := ⟨.func, 1, 8, [.nilfn], []⟩
def t171 : TI := ⟨.func, 1, 8, [.nilfn], []⟩
def t172 : TI := ⟨.func, 1, 8, [.nilfn], []⟩
def t173 : TI := ⟨.struct [(0, 153), (2, 136)], 3, 16, [.i .u32 (.lit 0), .i .u8 (.lit 0), .i .u64 (.lit 0)], [some .u32, some .u8, some .u64]⟩
def t174 : TI := ⟨.struct [(0, 153), (2, 136)], 3, 16, [.i .u32 (.lit 0), .i .u8 (.lit 0), .i .u64 (.lit 0)], [some .u32, some .u8, some .u64]⟩
def t176 : TI := ⟨.func, 1, 8, [.nilfn], []⟩
def t177 : TI := ⟨.func, 1, 8, [.nilfn], []⟩
def t178 : TI := ⟨.array 2 22, 2, 8, [.i .u32 (.lit 0), .i .u32 (.lit 0)], [some .u32, some .u32]⟩
def t179 : TI := ⟨.array 2 103, 2, 16, [.i .i64 (.lit 0), .i .i64 (.lit 0)], [some .i64, some .i64]⟩
def t180 : TI := ⟨.func, 1, 8, [.nilfn], []⟩
def t181 : TI := ⟨.func, 1, 8, [.nilfn], []⟩
def t182 : TI := ⟨.slice 128, 1, 24, [.nilslc], []⟩
def t183 : TI := ⟨.func, 1, 8, [.nilfn], []⟩
def t185 : TI := ⟨.func, 1, 8, [.nilfn], []⟩
def t186 : TI := ⟨.array 4 28, 4, 4, [.i .u8 (.lit 0), .i .u8 (.lit 0), .i .u8 (.lit 0), .i .u8 (.lit 0)], [some .u8, some .u8, some .u8, some .u8]⟩
def t187 : TI := ⟨.func, 1, 8, [.nilfn], []⟩
def t188 : TI := ⟨.func, 1, 8, [.nilfn], []⟩
def t190 : TI := ⟨.func, 1, 8, [.nilfn], []⟩
def t192 : TI := ⟨.func, 1, 8, [.nilfn], []⟩
def t193 : TI := ⟨.array 32 5, 32, 32, [.ints .u8 (.lit 32) (List.replicate 32 0)], []⟩
noncomputable def t194 : TI := ⟨.array 64 5, 64, 64, [.ints .u8 (.lit 64) (zerosI 64)], []⟩
def t194o : TI := ⟨.array 64 5, 64, 64, [.ints .u8 (.lit 64) (List.replicate 64 0)], []⟩
theorem t194_eq : t194 = t194o := by unfold t194 t194o; rw [zerosI_eq]
def t195 : TI := ⟨.func, 1, 8, [.nilfn], []⟩
def t196 : TI := ⟨.struct [(0, 17), (1, 17), (2, 17), (3, 9)], 4, 40, [.nilp, .nilp, .nilp, .str ⟨#[]⟩], []⟩
def t197 : TI := ⟨.struct [(0, 17), (1, 17), (2, 17), (3, 9)], 4, 40, [.nilp, .nilp, .nilp, .str ⟨#[]⟩], []⟩
def t198 : TI := ⟨.array 0 16, 0, 0, [], []⟩
def t199 : TI := ⟨.struct [(0, 198)], 0, 0, [], []⟩
def t200 : TI := ⟨.struct [(0, 198)], 0, 0, [], []⟩
def t201 : TI := ⟨.int .u8, 1, 1, [.i .u8 (.lit 0)], []⟩
def t202 : TI := ⟨.int .u8, 1, 1, [.i .u8 (.lit 0)], []⟩
def t203 : TI := ⟨.func, 1, 8, [.nilfn], []⟩
def t204 : TI := ⟨.ptr 5, 1, 8, [.nilp], []⟩
def t205 : TI := ⟨.int .i32, 1, 4, [.i .i32 (.lit 0)], []⟩
def t206 : TI := ⟨.int .i32, 1, 4, [.i .i32 (.lit 0)], []⟩
def t207 : TI := ⟨.struct [(0, 12), (1, 12), (2, 22), (3, 201), (4, 5), (5, 5), (6, 202), (7, 203), (8, 204), (9, 205), (10, 206)], 11, 48, [.i .u64 (.lit 0), .i .u64 (.lit 0), .i .u32 (.lit 0), .i .u8 (.lit 0), .i .u8 (.lit 0), .i .u8 (.lit 0), .i .u8 (.lit 0), .nilfn, .nilp, .i .i32 (.lit 0), .i .i32 (.lit 0)], []⟩
def t208 : TI := ⟨.struct [(0, 12), (1, 12), (2, 22), (3, 201), (4, 5), (5, 5), (6, 202), (7, 203), (8, 204), (9, 205), (10, 206)], 11, 48, [.i .u64 (.lit 0), .i .u64 (.lit 0), .i .u32 (.lit 0), .i .u8 (.lit 0), .i .u8 (.lit 0), .i .u8 (.lit 0), .i .u8 (.lit 0), .nilfn, .nilp, .i .i32 (.lit 0), .i .i32 (.lit 0)], []⟩
def t209 : TI := ⟨.other, 1, 8, [.nilp], []⟩
noncomputable def tab : Tree := (.node 107 t107 (.node 50 t50 (.node 24 t24 (.node 12 t12 (.node 6 t6 (.node 3 t3 (.node 2 t2 (.node 1 t1 .leaf .leaf) .leaf) (.node 5 t5 (.node 4 t4 .leaf .leaf) .leaf)) (.node 9 t9 (.node 8 t8 (.node 7 t7 .leaf .leaf) .leaf) (.node 11 t11 (.node 10 t10 .leaf .leaf) .leaf))) (.node 18 t18 (.node 15 t15 (.node 14 t14 (.node 13 t13 .leaf .leaf) .leaf) (.node 17 t17 (.node 16 t16 .leaf .leaf) .leaf)) (.node 21 t21 (.node 20 t20 (.node 19 t19 .leaf .leaf) .leaf) (.node 23 t23 (.node 22 t22 .leaf .leaf) .leaf)))) (.node 36 t36 (.node 30 t30 (.node 27 t27 (.node 26 t26 (.node 25 t25 .leaf .leaf) .leaf) (.node 29 t29 (.node 28 t28 .leaf .leaf) .leaf)) (.node 33 t33 (.node 32 t32 (.node 31 t31 .leaf .leaf) .leaf) (.node 35 t35 (.node 34 t34 .leaf .leaf) .leaf))) (.node 42 t42 (.node 39 t39 (.node 38 t38 (.node 37 t37 .leaf .leaf) .leaf) (.node 41 t41 (.node 40 t40 .leaf .leaf) .leaf)) (.node 46 t46 (.node 44 t44 (.node 43 t43 .leaf .leaf) .leaf) (.node 49 t49 (.node 47 t47 .leaf .leaf) .leaf))))) (.node 80 t80 (.node 64 t64 (.node 58 t58 (.node 54 t54 (.node 52 t52 (.node 51 t51 .leaf .leaf) .leaf) (.node 57 t57 (.node 55 t55 .leaf .leaf) .leaf)) (.node 61 t61 (.node 60 t60 (.node 59 t59 .leaf .leaf) .leaf) (.node 63 t63 (.node 62 t62 .leaf .leaf) .leaf))) (.node 70 t70 (.node 67 t67 (.node 66 t66 (.node 65 t65 .leaf .leaf) .leaf) (.node 69 t69 (.node 68 t68 .leaf .leaf) .leaf)) (.node 75 t75 (.node 73 t73 (.node 71 t71 .leaf .leaf) .leaf) (.node 79 t79 (.node 77 t77 .leaf .leaf) .leaf)))) (.node 93 t93 (.node 87 t87 (.node 84 t84 (.node 82 t82 (.node 81 t81 .leaf .leaf) .leaf) (.node 86 t86 (.node 85 t85 .leaf .leaf) .leaf)) (.node 90 t90 (.node 89 t89 (.node 88 t88 .leaf .leaf) .leaf) (.node 92 t92 (.node 91 t91 .leaf .leaf) .leaf))) (.node 99 t99 (.node 96 t96 (.node 95 t95 (.node 94 t94 .leaf .leaf) .leaf) (.node 98 t98 (.node 97 t97 .leaf .leaf) .leaf)) (.node 104 t104 (.node 103 t103 (.node 102 t102 .leaf .leaf) .leaf) (.node 105 t105 .leaf .leaf)))))) (.node 156 t156 (.node 131 t131 (.node 119 t119 (.node 113 t113 (.node 110 t110 (.node 109 t109 (.node 108 t108 .leaf .leaf) .leaf) (.node 112 t112 (.node 111 t111 .leaf .leaf) .leaf)) (.node 116 t116 (.node 115 t115 (.node 114 t114 .leaf .leaf) .leaf) (.node 118 t118 (.node 117 t117 .leaf .leaf) .leaf))) (.node 125 t125 (.node 122 t122 (.node 121 t121 (.node 120 t120 .leaf .leaf) .leaf) (.node 124 t124 (.node 123 t123 .leaf .leaf) .leaf)) (.node 128 t128 (.node 127 t127 (.node 126 t126 .leaf .leaf) .leaf) (.node 130 t130 (.node 129 t129 .leaf .leaf) .leaf)))) (.node 143 t143 (.node 137 t137 (.node 134 t134 (.node 133 t133 (.node 132 t132 .leaf .leaf) .leaf) (.node 136 t136 (.node 135 t135 .leaf .leaf) .leaf)) (.node 140 t140 (.node 139 t139 (.node 138 t138 .leaf .leaf) .leaf) (.node 142 t142 (.node 141 t141 .leaf .leaf) .leaf))) (.node 149 t149 (.node 146 t146 (.node 145 t145 (.node 144 t144 .leaf .leaf) .leaf) (.node 148 t148 (.node 147 t147 .leaf .leaf) .leaf)) (.node 153 t153 (.node 152 t152 (.node 150 t150 .leaf .leaf) .leaf) (.node 155 t155 .leaf .leaf))))) (.node 185 t185 (.node 171 t171 (.node 165 t165 (.node 160 t160 (.node 159 t159 (.node 157 t157 .leaf .leaf) .leaf) (.node 163 t163 (.node 161 t161 .leaf .leaf) .leaf)) (.node 168 t168 (.node 167 t167 (.node 166 t166 .leaf .leaf) .leaf) (.node 170 t170 (.node 169 t169 .leaf .leaf) .leaf))) (.node 178 t178 (.node 174 t174 (.node 173 t173 (.node 172 t172 .leaf .leaf) .leaf) (.node 177 t177 (.node 176 t176 .leaf .leaf) .leaf)) (.node 181 t181 (.node 180 t180 (.node 179 t179 .leaf .leaf) .leaf) (.node 183 t183 (.node 182 t182 .leaf .leaf) .leaf)))) (.node 199 t199 (.node 193 t193 (.node 188 t188 (.node 187 t187 (.node 186 t186 .leaf .leaf) .leaf) (.node 192 t192 (.node 190 t190 .leaf .leaf) .leaf)) (.node 196 t196 (.node 195 t195 (.node 194 t194 .leaf .leaf) .leaf) (.node 198 t198 (.node 197 t197 .leaf .leaf) .leaf))) (.node 205 t205 (.node 202 t202 (.node 201 t201 (.node 200 t200 .leaf .leaf) .leaf) (.node 204 t204 (.node 203 t203 .leaf .leaf) .leaf)) (.node 208 t208 (.node 207 t207 (.node 206 t206 .leaf .leaf) .leaf) (.node 209 t209 .leaf .leaf)))))))
def tab0 : Tree := (.node 107 t107 (.node 50 t50 (.node 24 t24 (.node 12 t12 (.node 6 t6 (.node 3 t3 (.node 2 t2 (.node 1 t1 .leaf .leaf) .leaf) (.node 5 t5 (.node 4 t4 .leaf .leaf) .leaf)) (.node 9 t9 (.node 8 t8 (.node 7 t7 .leaf .leaf) .leaf) (.node 11 t11 (.node 10 t10 .leaf .leaf) .leaf))) (.node 18 t18 (.node 15 t15 (.node 14 t14 (.node 13 t13 .leaf .leaf) .leaf) (.node 17 t17 (.node 16 t16 .leaf .leaf) .leaf)) (.node 21 t21 (.node 20 t20 (.node 19 t19 .leaf .leaf) .leaf) (.node 23 t23 (.node 22 t22 .leaf .leaf) .leaf)))) (.node 36 t36 (.node 30 t30 (.node 27 t27 (.node 26 t26 (.node 25 t25 .leaf .leaf) .leaf) (.node 29 t29 (.node 28 t28 .leaf .leaf) .leaf)) (.node 33 t33 (.node 32 t32 (.node 31 t31 .leaf .leaf) .leaf) (.node 35 t35 (.node 34 t34 .leaf .leaf) .leaf))) (.node 42 t42 (.node 39 t39 (.node 38 t38 (.node 37 t37 .leaf .leaf) .leaf) (.node 41 t41 (.node 40 t40 .leaf .leaf) .leaf)) (.node 46 t46 (.node 44 t44 (.node 43 t43 .leaf .leaf) .leaf) (.node 49 t49 (.node 47 t47 .leaf .leaf) .leaf))))) (.node 80 t80 (.node 64 t64 (.node 58 t58 (.node 54 t54 (.node 52 t52 (.node 51 t51 .leaf .leaf) .leaf) (.node 57 t57 (.node 55 t55 .leaf .leaf) .leaf)) (.node 61 t61 (.node 60 t60 (.node 59 t59 .leaf .leaf) .leaf) (.node 63 t63 (.node 62 t62 .leaf .leaf) .leaf))) (.node 70 t70 (.node 67 t67 (.node 66 t66 (.node 65 t65 .leaf .leaf) .leaf) (.node 69 t69 (.node 68 t68 .leaf .leaf) .leaf)) (.node 75 t75 (.node 73 t73 (.node 71 t71 .leaf .leaf) .leaf) (.node 79 t79 (.node 77 t77 .leaf .leaf) .leaf)))) (.node 93 t93 (.node 87 t87 (.node 84 t84 (.node 82 t82 (.node 81 t81 .leaf .leaf) .leaf) (.node 86 t86 (.node 85 t85 .leaf .leaf) .leaf)) (.node 90 t90 (.node 89 t89 (.node 88 t88 .leaf .leaf) .leaf) (.node 92 t92 (.node 91 t91 .leaf .leaf) .leaf))) (.node 99 t99 (.node 96 t96 (.node 95 t95 (.node 94 t94 .leaf .leaf) .leaf) (.node 98 t98 (.node 97 t97 .leaf .leaf) .leaf)) (.node 104 t104 (.node 103 t103 (.node 102 t102 .leaf .leaf) .leaf) (.node 105 t105 .leaf .leaf)))))) (.node 156 t156 (.node 131 t131 (.node 119 t119 (.node 113 t113 (.node 110 t110 (.node 109 t109 (.node 108 t108 .leaf .leaf) .leaf) (.node 112 t112 (.node 111 t111 .leaf .leaf) .leaf)) (.node 116 t116 (.node 115 t115 (.node 114 t114 .leaf .leaf) .leaf) (.node 118 t118o (.node 117 t117o .leaf .leaf) .leaf))) (.node 125 t125 (.node 122 t122 (.node 121 t121 (.node 120 t120 .leaf .leaf) .leaf) (.node 124 t124 (.node 123 t123 .leaf .leaf) .leaf)) (.node 128 t128 (.node 127 t127 (.node 126 t126 .leaf .leaf) .leaf) (.node 130 t130 (.node 129 t129 .leaf .leaf) .leaf)))) (.node 143 t143 (.node 137 t137 (.node 134 t134 (.node 133 t133 (.node 132 t132 .leaf .leaf) .leaf) (.node 136 t136 (.node 135 t135 .leaf .leaf) .leaf)) (.node 140 t140 (.node 139 t139 (.node 138 t138 .leaf .leaf) .leaf) (.node 142 t142 (.node 141 t141 .leaf .leaf) .leaf))) (.node 149 t149 (.node 146 t146 (.node 145 t145 (.node 144 t144 .leaf .leaf) .leaf) (.node 148 t148 (.node 147 t147 .leaf .leaf) .leaf)) (.node 153 t153 (.node 152 t152 (.node 150 t150 .leaf .leaf) .leaf) (.node 155 t155 .leaf .leaf))))) (.node 185 t185 (.node 171 t171 (.node 165 t165 (.node 160 t160 (.node 159 t159 (.node 157 t157 .leaf .leaf) .leaf) (.node 163 t163 (.node 161 t161 .leaf .leaf) .leaf)) (.node 168 t168 (.node 167 t167 (.node 166 t166 .leaf .leaf) .leaf) (.node 170 t170 (.node 169 t169 .leaf .leaf) .leaf))) (.node 178 t178 (.node 174 t174 (.node 173 t173 (.node 172 t172 .leaf .leaf) .leaf) (.node 177 t177 (.node 176 t176 .leaf .leaf) .leaf)) (.node 181 t181 (.node 180 t180 (.node 179 t179 .leaf .leaf) .leaf) (.node 183 t183 (.node 182 t182 .leaf .leaf) .leaf)))) (.node 199 t199 (.node 193 t193 (.node 188 t188 (.node 187 t187 (.node 186 t186 .leaf .leaf) .leaf) (.node 192 t192 (.node 190 t190 .leaf .leaf) .leaf)) (.node 196 t196 (.node 195 t195 (.node 194 t194o .leaf .leaf) .leaf) (.node 198 t198 (.node 197 t197 .leaf .leaf) .leaf))) (.node 205 t205 (.node 202 t202 (.node 201 t201 (.node 200 t200 .leaf .leaf) .leaf) (.node 204 t204 (.node 203 t203 .leaf .leaf) .leaf)) (.node 208 t208 (.node 207 t207 (.node 206 t206 .leaf .leaf) .leaf) (.node 209 t209 .leaf .leaf)))))))
theorem tab_eq : tab = tab0 := by unfold tab tab0; rw [t117_eq, t118_eq, t194_eq]
theorem tabOk : TOk Tryd.prog tab := by rw [tab_eq]; exact TOk.of_allB (by kernel_rfl)
def mtab : MT := []
theorem mtabOk : MOk Tryd.prog mtab := .nil _
end Go.Proofs.YtafhmkedblpdlaaDoor
end

/-
  The functions of this program that are gone into.
-/
section
namespace Go.Proofs.YtafhmkedblpdlaaDoor
open Go Go.Vex
set_option maxRecDepth 10000
noncomputable def kit0 : Kit := ⟨Tryd.prog, tab, mtab, tabOk, mtabOk, by kernel_rfl⟩
/-- The same, not to be looked into. -/
noncomputable def kitX : {k : Kit // k = kit0} := Classical.choice ⟨⟨kit0, rfl⟩⟩
noncomputable def kit : Kit := kitX.1
theorem kit_P : kit.P = Tryd.prog := by unfold kit; rw [kitX.2]; rfl
theorem kit_T : kit.T = tab := by unfold kit; rw [kitX.2]; rfl
theorem kit_M : kit.M = mtab := by unfold kit; rw [kitX.2]; rfl
theorem fo {f : Nat} {fn : Func} (O : Opt) (h : Tryd.prog.funcs[f]? = some fn) (hb : fn.body.isSome = true) (hn : (fn.name == "runtime.NumGoroutine") = false)
    (hch : drawsChk (fn.body.getD .skip) = true) (hO : plainOb O.ob = true) : FnOk kit f (fi fn O) := fi_ok O hO (by rw [kit_P]; exact h) hb hn hch
theorem foO {f : Nat} {fn : Func} (O : Opt) (h : Tryd.prog.funcs[f]? = some fn) (hb : fn.body.isSome = true) (hn : (fn.name == "runtime.NumGoroutine") = false)
    (hch : drawsChkO O.ob (fn.body.getD .skip) = true) : FnOk kit f (fi fn O) := fi_okO O (by rw [kit_P]; exact h) hb hn hch
theorem into {I : FnT} (hI : FnsOk kit I) (n : Nat) {f : Nat} {args : List SV} {hp : List Blk} {K : Bool → SV → List Blk → Prop} (h : callH kit tab mtab I n f args hp K) : OkCall kit f args hp K :=
  OkCall.into hI n (by rw [kit_T, kit_M]; exact h)
theorem kcode {I : FnT} (hI : FnsOk kit I) (d : Nat) (O : Opt) {nt n0 : Nat} {c : Code} {q : Bool} {st : St} {Q : Bool → Ex → St → Prop} (hch : drawsChkO O.ob c = true)
    (h : codeS kit (callH kit tab mtab I d) O tab mtab nt n0 c q st Q) : Ok kit nt n0 c q st Q :=
  Ok.of_codeS (callH_ok hI d) O hch (by rw [kit_T, kit_M]; exact h)
theorem byInv {I : FnT} (hI : FnsOk kit I) (d : Nat) (O : Opt) {α : Type} (st : α → St) (m : α → Nat) (R : α → Prop) (q1 : Bool) {nt n0 : Nat} {c : Code} {q : Bool} {st0 : St} {Q : Bool → Ex → St → Prop} (a0 : α)
    (hch : drawsChkO O.ob c = true) (h0 : R a0) (hl : LeSt n0 q st0 q1 (st a0))
    (hstep : ∀ a, R a → codeS kit (callH kit tab mtab I d) O tab mtab nt n0 c q1 (st a) (roundQ n0 Q (fun b => R b ∧ m b < m a) q1 st)) : OkLoop kit nt n0 c q st0 Q :=
  OkLoop.by_inv hI d O st m R q1 a0 hch h0 hl (by rw [kit_T, kit_M]; exact hstep)
theorem fo3 (O : Opt) (hO : plainOb O.ob = true := by rfl) : FnOk kit 3 (fi Tryd.f3 O) := fo O Tryd.func3 (by kernel_rfl) (by decide +kernel) (by kernel_rfl) hO
theorem fo4 (O : Opt) (hO : plainOb O.ob = true := by rfl) : FnOk kit 4 (fi Tryd.f4 O) := fo O Tryd.func4 (by kernel_rfl) (by decide +kernel) (by kernel_rfl) hO
theorem fo5 (O : Opt) (hO : plainOb O.ob = true := by rfl) : FnOk kit 5 (fi Tryd.f5 O) := fo O Tryd.func5 (by kernel_rfl) (by decide +kernel) (by kernel_rfl) hO
theorem fo6 (O : Opt) (hO : plainOb O.ob = true := by rfl) : FnOk kit 6 (fi Tryd.f6 O) := fo O Tryd.func6 (by kernel_rfl) (by decide +kernel) (by kernel_rfl) hO
theorem fo7 (O : Opt) (hO : plainOb O.ob = true := by rfl) : FnOk kit 7 (fi Tryd.f7 O) := fo O Tryd.func7 (by kernel_rfl) (by decide +kernel) (by kernel_rfl) hO
theorem fo8 (O : Opt) (hO : plainOb O.ob = true := by rfl) : FnOk kit 8 (fi Tryd.f8 O) := fo O Tryd.func8 (by kernel_rfl) (by decide +kernel) (by kernel_rfl) hO
theorem fo9 (O : Opt) (hO : plainOb O.ob = true := by rfl) : FnOk kit 9 (fi Tryd.f9 O) := fo O Tryd.func9 (by kernel_rfl) (by decide +kernel) (by kernel_rfl) hO
theorem fo10 (O : Opt) (hO : plainOb O.ob = true := by rfl) : FnOk kit 10 (fi Tryd.f10 O) := fo O Tryd.func10 (by kernel_rfl) (by decide +kernel) (by kernel_rfl) hO
theorem fo11 (O : Opt) (hO : plainOb O.ob = true := by rfl) : FnOk kit 11 (fi Tryd.f11 O) := fo O Tryd.func11 (by kernel_rfl) (by decide +kernel) (by kernel_rfl) hO
theorem fo12 (O : Opt) (hO : plainOb O.ob = true := by rfl) : FnOk kit 12 (fi Tryd.f12 O) := fo O Tryd.func12 (by kernel_rfl) (by decide +kernel) (by kernel_rfl) hO
theorem fo13 (O : Opt) (hO : plainOb O.ob = true := by rfl) : FnOk kit 13 (fi Tryd.f13 O) := fo O Tryd.func13 (by kernel_rfl) (by decide +kernel) (by kernel_rfl) hO
theorem fo14 (O : Opt) (hO : plainOb O.ob = true := by rfl) : FnOk kit 14 (fi Tryd.f14 O) := fo O Tryd.func14 (by kernel_rfl) (by decide +kernel) (by kernel_rfl) hO
theorem fo16 (O : Opt) (hO : plainOb O.ob = true := by rfl) : FnOk kit 16 (fi Tryd.f16 O) := fo O Tryd.func16 (by kernel_rfl) (by decide +kernel) (by kernel_rfl) hO
theorem fo17 (O : Opt) (hO : plainOb O.ob = true := by rfl) : FnOk kit 17 (fi Tryd.f17 O) := fo O Tryd.func17 (by kernel_rfl) (by decide +kernel) (by kernel_rfl) hO
theorem fo18 (O : Opt) (hO : plainOb O.ob = true := by rfl) : FnOk kit 18 (fi Tryd.f18 O) := fo O Tryd.func18 (by kernel_rfl) (by decide +kernel) (by kernel_rfl) hO
theorem fo19 (O : Opt) (hO : plainOb O.ob = true := by rfl) : FnOk kit 19 (fi Tryd.f19 O) := fo O Tryd.func19 (by kernel_rfl) (by decide +kernel) (by kernel_rfl) hO
theorem fo20 (O : Opt) (hO : plainOb O.ob = true := by rfl) : FnOk kit 20 (fi Tryd.f20 O) := fo O Tryd.func20 (by kernel_rfl) (by decide +kernel) (by kernel_rfl) hO
theorem fo21 (O : Opt) (hO : plainOb O.ob = true := by rfl) : FnOk kit 21 (fi Tryd.f21 O) := fo O Tryd.func21 (by kernel_rfl) (by decide +kernel) (by kernel_rfl) hO
theorem fo22 (O : Opt) (hO : plainOb O.ob = true := by rfl) : FnOk kit 22 (fi Tryd.f22 O) := fo O Tryd.func22 (by kernel_rfl) (by decide +kernel) (by kernel_rfl) hO
theorem fo23 (O : Opt) (hO : plainOb O.ob = true := by rfl) : FnOk kit 23 (fi Tryd.f23 O) := fo O Tryd.func23 (by kernel_rfl) (by decide +kernel) (by kernel_rfl) hO
theorem fo24 (O : Opt) (hO : plainOb O.ob = true := by rfl) : FnOk kit 24 (fi Tryd.f24 O) := fo O Tryd.func24 (by kernel_rfl) (by decide +kernel) (by kernel_rfl) hO
theorem fo25 (O : Opt) (hO : plainOb O.ob = true := by rfl) : FnOk kit 25 (fi Tryd.f25 O) := fo O Tryd.func25 (by kernel_rfl) (by decide +kernel) (by kernel_rfl) hO
theorem fo26 (O : Opt) (hO : plainOb O.ob = true := by rfl) : FnOk kit 26 (fi Tryd.f26 O) := fo O Tryd.func26 (by kernel_rfl) (by decide +kernel) (by kernel_rfl) hO
theorem fo27 (O : Opt) (hO : plainOb O.ob = true := by rfl) : FnOk kit 27 (fi Tryd.f27 O) := fo O Tryd.func27 (by kernel_rfl) (by decide +kernel) (by kernel_rfl) hO
theorem fo28 (O : Opt) (hO : plainOb O.ob = true := by rfl) : FnOk kit 28 (fi Tryd.f28 O) := fo O Tryd.func28 (by kernel_rfl) (by decide +kernel) (by kernel_rfl) hO
theorem fo29 (O : Opt) (hO : plainOb O.ob = true := by rfl) : FnOk kit 29 (fi Tryd.f29 O) := fo O Tryd.func29 (by kernel_rfl) (by decide +kernel) (by kernel_rfl) hO
theorem fo30 (O : Opt) (hO : plainOb O.ob = true := by rfl) : FnOk kit 30 (fi Tryd.f30 O) := fo O Tryd.func30 (by kernel_rfl) (by decide +kernel) (by kernel_rfl) hO
theorem fo31 (O : Opt) (hO : plainOb O.ob = true := by rfl) : FnOk kit 31 (fi Tryd.f31 O) := fo O Tryd.func31 (by kernel_rfl) (by decide +kernel) (by kernel_rfl) hO
theorem fo32 (O : Opt) (hO : plainOb O.ob = true := by rfl) : FnOk kit 32 (fi Tryd.f32 O) := fo O Tryd.func32 (by kernel_rfl) (by decide +kernel) (by kernel_rfl) hO
theorem fo33 (O : Opt) (hO : plainOb O.ob = true := by rfl) : FnOk kit 33 (fi Tryd.f33 O) := fo O Tryd.func33 (by kernel_rfl) (by decide +kernel) (by kernel_rfl) hO
theorem fo34 (O : Opt) (hO : plainOb O.ob = true := by rfl) : FnOk kit 34 (fi Tryd.f34 O) := fo O Tryd.func34 (by kernel_rfl) (by decide +kernel) (by kernel_rfl) hO
theorem fo35 (O : Opt) (hO : plainOb O.ob = true := by rfl) : FnOk kit 35 (fi Tryd.f35 O) := fo O Tryd.func35 (by kernel_rfl) (by decide +kernel) (by kernel_rfl) hO
theorem fo36 (O : Opt) (hO : plainOb O.ob = true := by rfl) : FnOk kit 36 (fi Tryd.f36 O) := fo O Tryd.func36 (by kernel_rfl) (by decide +kernel) (by kernel_rfl) hO
theorem fo37 (O : Opt) (hO : plainOb O.ob = true := by rfl) : FnOk kit 37 (fi Tryd.f37 O) := fo O Tryd.func37 (by kernel_rfl) (by decide +kernel) (by kernel_rfl) hO
theorem fo38 (O : Opt) (hO : plainOb O.ob = true := by rfl) : FnOk kit 38 (fi Tryd.f38 O) := fo O Tryd.func38 (by kernel_rfl) (by decide +kernel) (by kernel_rfl) hO
theorem fo39 (O : Opt) (hO : plainOb O.ob = true := by rfl) : FnOk kit 39 (fi Tryd.f39 O) := fo O Tryd.func39 (by kernel_rfl) (by decide +kernel) (by kernel_rfl) hO
theorem fo40 (O : Opt) (hO : plainOb O.ob = true := by rfl) : FnOk kit 40 (fi Tryd.f40 O) := fo O Tryd.func40 (by kernel_rfl) (by decide +kernel) (by kernel_rfl) hO
theorem fo41 (O : Opt) (hO : plainOb O.ob = true := by rfl) : FnOk kit 41 (fi Tryd.f41 O) := fo O Tryd.func41 (by kernel_rfl) (by decide +kernel) (by kernel_rfl) hO
theorem fo42 (O : Opt) (hO : plainOb O.ob = true := by rfl) : FnOk kit 42 (fi Tryd.f42 O) := fo O Tryd.func42 (by kernel_rfl) (by decide +kernel) (by kernel_rfl) hO
theorem fo43 (O : Opt) (hO : plainOb O.ob = true := by rfl) : FnOk kit 43 (fi Tryd.f43 O) := fo O Tryd.func43 (by kernel_rfl) (by decide +kernel) (by kernel_rfl) hO
theorem fo44 (O : Opt) (hO : plainOb O.ob = true := by rfl) : FnOk kit 44 (fi Tryd.f44 O) := fo O Tryd.func44 (by kernel_rfl) (by decide +kernel) (by kernel_rfl) hO
theorem fo45 (O : Opt) (hO : plainOb O.ob = true := by rfl) : FnOk kit 45 (fi Tryd.f45 O) := fo O Tryd.func45 (by kernel_rfl) (by decide +kernel) (by kernel_rfl) hO
theorem fo46 (O : Opt) (hO : plainOb O.ob = true := by rfl) : FnOk kit 46 (fi Tryd.f46 O) := fo O Tryd.func46 (by kernel_rfl) (by decide +kernel) (by kernel_rfl) hO
theorem fo47 (O : Opt) (hO : plainOb O.ob = true := by rfl) : FnOk kit 47 (fi Tryd.f47 O) := fo O Tryd.func47 (by kernel_rfl) (by decide +kernel) (by kernel_rfl) hO
theorem fo48 (O : Opt) (hO : plainOb O.ob = true := by rfl) : FnOk kit 48 (fi Tryd.f48 O) := fo O Tryd.func48 (by kernel_rfl) (by decide +kernel) (by kernel_rfl) hO
theorem fo50 (O : Opt) (hO : plainOb O.ob = true := by rfl) : FnOk kit 50 (fi Tryd.f50 O) := fo O Tryd.func50 (by kernel_rfl) (by decide +kernel) (by kernel_rfl) hO
theorem fo51 (O : Opt) (hO : plainOb O.ob = true := by rfl) : FnOk kit 51 (fi Tryd.f51 O) := fo O Tryd.func51 (by kernel_rfl) (by decide +kernel) (by kernel_rfl) hO
theorem fo52 (O : Opt) (hO : plainOb O.ob = true := by rfl) : FnOk kit 52 (fi Tryd.f52 O) := fo O Tryd.func52 (by kernel_rfl) (by decide +kernel) (by kernel_rfl) hO
theorem fo53 (O : Opt) (hO : plainOb O.ob = true := by rfl) : FnOk kit 53 (fi Tryd.f53 O) := fo O Tryd.func53 (by kernel_rfl) (by decide +kernel) (by kernel_rfl) hO
theorem fo54 (O : Opt) (hO : plainOb O.ob = true := by rfl) : FnOk kit 54 (fi Tryd.f54 O) := fo O Tryd.func54 (by kernel_rfl) (by decide +kernel) (by kernel_rfl) hO
theorem fo55 (O : Opt) (hO : plainOb O.ob = true := by rfl) : FnOk kit 55 (fi Tryd.f55 O) := fo O Tryd.func55 (by kernel_rfl) (by decide +kernel) (by kernel_rfl) hO
theorem fo56 (O : Opt) (hO : plainOb O.ob = true := by rfl) : FnOk kit 56 (fi Tryd.f56 O) := fo O Tryd.func56 (by kernel_rfl) (by decide +kernel) (by kernel_rfl) hO
theorem fo57 (O : Opt) (hO : plainOb O.ob = true := by rfl) : FnOk kit 57 (fi Tryd.f57 O) := fo O Tryd.func57 (by kernel_rfl) (by decide +kernel) (by kernel_rfl) hO
theorem fo58 (O : Opt) (hO : plainOb O.ob = true := by rfl) : FnOk kit 58 (fi Tryd.f58 O) := fo O Tryd.func58 (by kernel_rfl) (by decide +kernel) (by kernel_rfl) hO
theorem fo59 (O : Opt) (hO : plainOb O.ob = true := by rfl) : FnOk kit 59 (fi Tryd.f59 O) := fo O Tryd.func59 (by kernel_rfl) (by decide +kernel) (by kernel_rfl) hO
theorem fo60 (O : Opt) (hO : plainOb O.ob = true := by rfl) : FnOk kit 60 (fi Tryd.f60 O) := fo O Tryd.func60 (by kernel_rfl) (by decide +kernel) (by kernel_rfl) hO
theorem fo61 (O : Opt) (hO : plainOb O.ob = true := by rfl) : FnOk kit 61 (fi Tryd.f61 O) := fo O Tryd.func61 (by kernel_rfl) (by decide +kernel) (by kernel_rfl) hO
theorem fo62 (O : Opt) (hO : plainOb O.ob = true := by rfl) : FnOk kit 62 (fi Tryd.f62 O) := fo O Tryd.func62 (by kernel_rfl) (by decide +kernel) (by kernel_rfl) hO
theorem fo63 (O : Opt) (hO : plainOb O.ob = true := by rfl) : FnOk kit 63 (fi Tryd.f63 O) := fo O Tryd.func63 (by kernel_rfl) (by decide +kernel) (by kernel_rfl) hO
theorem fo65 (O : Opt) (hO : plainOb O.ob = true := by rfl) : FnOk kit 65 (fi Tryd.f65 O) := fo O Tryd.func65 (by kernel_rfl) (by decide +kernel) (by kernel_rfl) hO
theorem fo66 (O : Opt) (hO : plainOb O.ob = true := by rfl) : FnOk kit 66 (fi Tryd.f66 O) := fo O Tryd.func66 (by kernel_rfl) (by decide +kernel) (by kernel_rfl) hO
theorem fo67 (O : Opt) (hO : plainOb O.ob = true := by rfl) : FnOk kit 67 (fi Tryd.f67 O) := fo O Tryd.func67 (by kernel_rfl) (by decide +kernel) (by kernel_rfl) hO
theorem fo68 (O : Opt) (hO : plainOb O.ob = true := by rfl) : FnOk kit 68 (fi Tryd.f68 O) := fo O Tryd.func68 (by kernel_rfl) (by decide +kernel) (by kernel_rfl) hO
theorem fo69 (O : Opt) (hO : plainOb O.ob = true := by rfl) : FnOk kit 69 (fi Tryd.f69 O) := fo O Tryd.func69 (by kernel_rfl) (by decide +kernel) (by kernel_rfl) hO
theorem fo70 (O : Opt) (hO : plainOb O.ob = true := by rfl) : FnOk kit 70 (fi Tryd.f70 O) := fo O Tryd.func70 (by kernel_rfl) (by decide +kernel) (by kernel_rfl) hO
theorem fo71 (O : Opt) (hO : plainOb O.ob = true := by rfl) : FnOk kit 71 (fi Tryd.f71 O) := fo O Tryd.func71 (by kernel_rfl) (by decide +kernel) (by kernel_rfl) hO
theorem fo72 (O : Opt) (hO : plainOb O.ob = true := by rfl) : FnOk kit 72 (fi Tryd.f72 O) := fo O Tryd.func72 (by kernel_rfl) (by decide +kernel) (by kernel_rfl) hO
theorem fo73 (O : Opt) (hO : plainOb O.ob = true := by rfl) : FnOk kit 73 (fi Tryd.f73 O) := fo O Tryd.func73 (by kernel_rfl) (by decide +kernel) (by kernel_rfl) hO
theorem fo74 (O : Opt) (hO : plainOb O.ob = true := by rfl) : FnOk kit 74 (fi Tryd.f74 O) := fo O Tryd.func74 (by kernel_rfl) (by decide +kernel) (by kernel_rfl) hO
theorem fo75 (O : Opt) (hO : plainOb O.ob = true := by rfl) : FnOk kit 75 (fi Tryd.f75 O) := fo O Tryd.func75 (by kernel_rfl) (by decide +kernel) (by kernel_rfl) hO
theorem fo76 (O : Opt) (hO : plainOb O.ob = true := by rfl) : FnOk kit 76 (fi Tryd.f76 O) := fo O Tryd.func76 (by kernel_rfl) (by decide +kernel) (by kernel_rfl) hO
theorem fo77 (O : Opt) (hO : plainOb O.ob = true := by rfl) : FnOk kit 77 (fi Tryd.f77 O) := fo O Tryd.func77 (by kernel_rfl) (by decide +kernel) (by kernel_rfl) hO
theorem fo78 (O : Opt) (hO : plainOb O.ob = true := by rfl) : FnOk kit 78 (fi Tryd.f78 O) := fo O Tryd.func78 (by kernel_rfl) (by decide +kernel) (by kernel_rfl) hO
theorem fo79 (O : Opt) (hO : plainOb O.ob = true := by rfl) : FnOk kit 79 (fi Tryd.f79 O) := fo O Tryd.func79 (by kernel_rfl) (by decide +kernel) (by kernel_rfl) hO
theorem fo80 (O : Opt) (hO : plainOb O.ob = true := by rfl) : FnOk kit 80 (fi Tryd.f80 O) := fo O Tryd.func80 (by kernel_rfl) (by decide +kernel) (by kernel_rfl) hO
theorem fo81 (O : Opt) (hO : plainOb O.ob = true := by rfl) : FnOk kit 81 (fi Tryd.f81 O) := fo O Tryd.func81 (by kernel_rfl) (by decide +kernel) (by kernel_rfl) hO
theorem fo82 (O : Opt) (hO : plainOb O.ob = true := by rfl) : FnOk kit 82 (fi Tryd.f82 O) := fo O Tryd.func82 (by kernel_rfl) (by decide +kernel) (by kernel_rfl) hO
theorem fo83 (O : Opt) (hO : plainOb O.ob = true := by rfl) : FnOk kit 83 (fi Tryd.f83 O) := fo O Tryd.func83 (by kernel_rfl) (by decide +kernel) (by kernel_rfl) hO
end Go.Proofs.YtafhmkedblpdlaaDoor
end
