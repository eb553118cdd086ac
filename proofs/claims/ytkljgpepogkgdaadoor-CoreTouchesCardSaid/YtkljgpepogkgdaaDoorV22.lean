/-
  VEX, part 22: rows that are only looked at; nil slices as rows of nothing.
-/
import Derived.Test.YtkljgpepogkgdaaDoorVL
import Derived.Test.YtkljgpepogkgdaaDoorV12
set_option linter.unusedSimpArgs false
namespace Go.Vex
set_option linter.unusedVariables false
noncomputable section
theorem BImp.roTail (x : SV) (r : List SV) : BImp (.ro (x :: r)) (.ro [x]) := by
  refine ⟨fun ρ addr o w ⟨cs, h1, h2⟩ => ?_⟩
  obtain ⟨c1, c2, rfl, g1, g2⟩ := h1.of_cons
  refine ⟨c1, .cons c1 [] (by simp) g1 (.nil rfl), ?_⟩
  rcases h2 with ⟨e, rfl⟩ | ⟨b, o0, e1, rfl, e3⟩
  · left; simp at e; exact ⟨e.1, rfl⟩
  · refine .inr ⟨b, o0, e1, rfl, ?_⟩
    rcases e3 with e3 | ⟨arr, T, fz, e4, e5⟩
    · left; simp at e3; exact e3.1
    · refine .inr ⟨arr, T, fz, e4, fun j c hj => e5 j c ?_⟩
      rw [List.getElem?_append_left (List.getElem?_eq_some_iff.1 hj).1]; exact hj
theorem HImp.roInts {hp : List Blk} (y : Nat) {T : TypeId} {x : SV} {r : List SV} (hy : hp[y]? = some (.cells T (x :: r))) : HImp hp (hp.set y (.ro [x])) := by
  have h1 := HImp.toRo y hy
  have hlt := (List.getElem?_eq_some_iff.1 hy).1
  have h2 := HImp.at (hp := hp.set y (.ro (x :: r))) y (by rw [List.getElem?_set_self hlt]) (BImp.roTail x r)
  rw [List.set_set] at h2
  exact h1.trans h2

/-- Entailment with more names. -/
structure HExt (hp hp' : List Blk) : Prop where
  out : ∀ ρ w, HSat ρ hp w → ∃ ρ1, HSat (ρ ++ ρ1) hp' w
theorem HImp.ext {hp hp' : List Blk} (h : HImp hp hp') : HExt hp hp' := ⟨fun ρ w hs => ⟨[], by simpa using h.out ρ w hs⟩⟩
theorem HExt.trans {a b c : List Blk} (h : HExt a b) (k : HExt b c) : HExt a c := ⟨fun ρ w hs => by
  obtain ⟨ρ1, h1⟩ := h.out ρ w hs
  obtain ⟨ρ2, h2⟩ := k.out _ w h1
  exact ⟨ρ1 ++ ρ2, by rw [← List.append_assoc]; exact h2⟩⟩
theorem OkCall.ext {C : Kit} {f : Nat} {args : List SV} {hp hp' : List Blk} {K : Bool → SV → List Blk → Prop} (h : HExt hp hp') (k : OkCall C f args hp' K) : OkCall C f args hp K := by
  refine ⟨k.ok, fun ρ w vals hd hs => ?_⟩
  obtain ⟨ρ1, h1⟩ := h.out ρ w hs
  refine (k.out (ρ ++ ρ1) w vals (hd.mono (Ext.push _ _)) h1).mono ?_
  rintro e w' ⟨q, ρ', v, c, hp', rfl, k1, k2, k3, k4, k5, hK⟩
  exact ⟨q, ρ', v, c, hp', rfl, (Ext.push _ _).trans k1, k2, k3, k4, k5, hK⟩
theorem SSat.ext {E : Env} {q : Bool} {fr : Fr} {hp hp' : List Blk} {a : Act} {w : World} (h : HExt hp hp') (hs : SSat E q ⟨fr, hp⟩ a w) : SSat E q ⟨fr, hp'⟩ a w := by
  obtain ⟨ρ, h1, h2, h3, h4, h5⟩ := hs
  obtain ⟨ρ1, k1⟩ := h.out ρ w h3
  exact ⟨ρ ++ ρ1, h1.trans (Ext.push _ _), h2.mono (Ext.push _ _), k1, h4, h5⟩
theorem Ok.ext {C : Kit} {nt n0 : Nat} {c : Code} {q : Bool} {fr : Fr} {hp hp' : List Blk} {Q : Bool → Ex → St → Prop} (h : HExt hp hp') (k : Ok C nt n0 c q ⟨fr, hp'⟩ Q) : Ok C nt n0 c q ⟨fr, hp⟩ Q :=
  ⟨fun E a w h1 h2 hs => k.out E a w h1 h2 (hs.ext h)⟩
theorem OkLoop.ext {C : Kit} {nt n0 : Nat} {c : Code} {q : Bool} {fr : Fr} {hp hp' : List Blk} {Q : Bool → Ex → St → Prop} (h : HExt hp hp') (k : OkLoop C nt n0 c q ⟨fr, hp'⟩ Q) : OkLoop C nt n0 c q ⟨fr, hp⟩ Q :=
  ⟨fun E a w h1 h2 hs => k.out E a w h1 h2 (hs.ext h)⟩

theorem DenL.setNil {ρ ρ' : Rho} {y l0 w0 : Nat} (e : Ext ρ ρ') (hy : ρ'[y]? = some none) : ∀ {l : List SV} {cs : List Value} (i : Nat), DenL ρ l cs → l[i]? = some .nilslc → DenL ρ' (l.set i (.slc y l0 w0 (.lit 0) (.lit 0) (.lit 0))) cs
  | [], cs, i, h, hi => by simp at hi
  | x :: r, cs, 0, h, hi => by
    simp at hi; subst hi
    obtain ⟨c1, c2, rfl, g1, g2⟩ := h.of_cons
    obtain ⟨c, rfl, k1, k2⟩ := g1.single rfl
    cases k2 with
    | nilslc hc => subst hc; exact .cons _ _ rfl (.one _ rfl rfl (.slc none hy (fun _ => ⟨rfl, rfl⟩) rfl)) (g2.mono e)
  | x :: r, cs, i + 1, h, hi => by
    simp at hi
    obtain ⟨c1, c2, rfl, g1, g2⟩ := h.of_cons
    exact .cons _ _ rfl (g1.mono e) (DenL.setNil e hy i g2 hi)

/-- A nil slice in a row, as one of a row of nothing. -/
theorem HExt.nilFill {hp : List Blk} (x i l0 w0 : Nat) (k : Blk) {T : TypeId} {l : List SV} (hx : hp[x]? = some (.cells T l)) (hi : l[i]? = some .nilslc) (hk : ∀ ρ w, BSat ρ none ⟨[], []⟩ w k) :
    HExt hp (hp.set x (.cells T (l.set i (.slc hp.length l0 w0 (.lit 0) (.lit 0) (.lit 0)))) ++ [k]) := by
  refine ⟨fun ρ w ⟨ω, h⟩ => ⟨[none], ω ++ [⟨[], []⟩], by simp [h.lenω], by simp [h.lenh], ?_, ?_, ?_⟩⟩
  · intro y a o k' h1 h2 h3
    rcases getElem?_snoc _ _ _ _ h2 with ⟨hy, h2⟩ | ⟨hy, h2⟩
    · have hyl : y < hp.length := by rw [h.lenh, ← h.lenω]; exact hy
      rw [List.getElem?_append_left (by rw [← h.lenh]; exact hyl)] at h1
      rw [List.getElem?_append_left (by simpa using hyl)] at h3
      by_cases e : x = y
      · subst e
        rw [List.getElem?_set_self hyl] at h3; cases h3
        obtain ⟨cs, g1, g2⟩ := h.sat x a o _ h1 h2 hx
        exact ⟨cs, g1.setNil (Ext.push _ _) (by rw [h.lenh]; simp) i hi, g2⟩
      · rw [List.getElem?_set_ne e] at h3
        exact (h.sat y a o k' h1 h2 h3).mono (Ext.push _ _)
    · subst h2
      have e : y = hp.length := by rw [hy, h.lenω, h.lenh]
      rw [List.getElem?_append_right (by rw [← h.lenh]; omega)] at h1
      rw [List.getElem?_append_right (by simp; omega)] at h3
      rw [show y - ρ.length = 0 by rw [← h.lenh]; omega] at h1
      rw [show y - (hp.set x (.cells T (l.set i (.slc hp.length l0 w0 (.lit 0) (.lit 0) (.lit 0))))).length = 0 by simp; omega] at h3
      simp at h1 h3
      subst h1; subst h3; exact hk _ _
  · intro y z oy oz hy hz b hb
    rcases getElem?_snoc _ _ _ _ hy with ⟨_, hy⟩ | ⟨_, hy⟩
    · rcases getElem?_snoc _ _ _ _ hz with ⟨_, hz⟩ | ⟨_, hz⟩
      · exact h.dis y z oy oz hy hz b hb
      · subst hz; simp
    · subst hy; simp at hb
  · intro y oy hy b hb
    rcases getElem?_snoc _ _ _ _ hy with ⟨_, hy⟩ | ⟨_, hy⟩
    · exact h.bnd y oy hy b hb
    · subst hy; simp at hb
theorem nil_ro (k : IntKind) : ∀ ρ w, BSat ρ none ⟨[], []⟩ w (.ro [.ints k (.ex 0) []]) := fun ρ w => ⟨[], .cons [] [] rfl (.ints rfl rfl) (.nil rfl), .inl ⟨rfl, rfl⟩⟩
theorem nil_rows (T : TypeId) (wd : Nat) (f : Nat → List SV) : ∀ ρ w, BSat ρ none ⟨[], []⟩ w (.cells T [.rows wd (.ex 0) f, .junk wd (.ex 0)]) := fun ρ w =>
  ⟨[], .cons [] [] rfl (.rows (by simp) (fun j hj => by simp at hj)) (.cons [] [] rfl (.junk (by simp) (by simp)) (.nil rfl)), .inl ⟨rfl, rfl, rfl⟩⟩
end
end Go.Vex
namespace Go.Vex
set_option linter.unusedVariables false
noncomputable section
/-- What a round must end in. -/
def roundQ {α : Type} (n0 : Nat) (Q : Bool → Ex → St → Prop) (R : α → Prop) (q1 : Bool) (st : α → St) (q : Bool) (e : Ex) (s : St) : Prop :=
  match e with
  | .normal => ∃ b, R b ∧ ∃ hp2, HExt s.hp hp2 ∧ LeSt n0 q ⟨s.fr, hp2⟩ q1 (st b)
  | .exit id => Q q (.exit id) s
  | .ret => Q q .ret s
theorem LeSt.mk' {n0 : Nat} {q : Bool} {st : St} {q' : Bool} {st' : St} (σ : List Nat) (h1 : σ.Nodup) (h2 : idPre σ n0 = true) (h3 : q' = true → q = true)
    (h4 : preF (tau σ st.hp.length) st.fr st'.fr) (h5 : preL (tau σ st.hp.length) st.hp σ st'.hp) : LeSt n0 q st q' st' := ⟨σ, h1, h2, h3, h4, h5⟩
theorem OkLoop.inv {C : Kit} {I : FnT} (hI : FnsOk C I) (d : Nat) (O : Opt) {α : Type} (st : α → St) (m : α → Nat) (R : α → Prop) (q1 : Bool) {nt n0 : Nat} {c : Code} {Q : Bool → Ex → St → Prop} (hch : drawsChk c = true)
    (hstep : ∀ a, R a → codeS C (callH C C.T C.M I d) O C.T C.M nt n0 c q1 (st a) (roundQ n0 Q (fun b => R b ∧ m b < m a) q1 st)) : ∀ a, R a → OkLoop C nt n0 c q1 (st a) Q := by
  have key : ∀ n a, m a ≤ n → R a → OkLoop C nt n0 c q1 (st a) Q := by
    intro n
    induction n with
    | zero =>
      intro a hm hR
      refine ⟨fun E x w h1 h2 hs => ?_⟩
      subst h1; subst h2
      refine LoopW.round (wp_mono (codeS_sound (callH_ok hI d) c q1 (st a) _ x w hch hs (hstep a hR)) ?_)
      intro e a' w' he
      cases e with
      | normal => obtain ⟨q', s', h3, b, ⟨_, h4⟩, _⟩ := he; omega
      | exit id => exact he
      | ret => exact he
      | goto l => exact he.elim
      | panic ch => exact he.elim
      | outgrown => exact he.elim
    | succ n ih =>
      intro a hm hR
      refine ⟨fun E x w h1 h2 hs => ?_⟩
      subst h1; subst h2
      refine LoopW.round (wp_mono (codeS_sound (callH_ok hI d) c q1 (st a) _ x w hch hs (hstep a hR)) ?_)
      intro e a' w' he
      cases e with
      | normal =>
        obtain ⟨q', s', h3, b, ⟨hRb, h4⟩, hp2, h5, h6⟩ := he
        exact (ih b (by omega) hRb).out E a' w' rfl rfl (h6.sat rfl (h3.ext h5))
      | exit id => exact he
      | ret => exact he
      | goto l => exact he.elim
      | panic ch => exact he.elim
      | outgrown => exact he.elim
  exact fun a hR => key (m a) a (Nat.le_refl _) hR
/-- A loop, by what holds ahead of each round. -/
theorem OkLoop.by_inv {C : Kit} {I : FnT} (hI : FnsOk C I) (d : Nat) (O : Opt) {α : Type} (st : α → St) (m : α → Nat) (R : α → Prop) (q1 : Bool) {nt n0 : Nat} {c : Code} {q : Bool} {st0 : St} {Q : Bool → Ex → St → Prop} (a0 : α)
    (hch : drawsChk c = true) (h0 : R a0) (hl : LeSt n0 q st0 q1 (st a0))
    (hstep : ∀ a, R a → codeS C (callH C C.T C.M I d) O C.T C.M nt n0 c q1 (st a) (roundQ n0 Q (fun b => R b ∧ m b < m a) q1 st)) : OkLoop C nt n0 c q st0 Q :=
  OkLoop.weak hl (OkLoop.inv hI d O st m R q1 hch hstep a0 h0)
end
end Go.Vex
namespace Go.Vex
set_option linter.unusedVariables false
noncomputable section
theorem DenL.toInts {ρ : Rho} {k : IntKind} : ∀ {l : List (S Int)} {cs : List Value}, DenL ρ (l.map fun s => .i k s) cs → cs = (l.map S.val).map (Value.int k)
  | [], cs, h => h.of_nil
  | s :: r, cs, h => by
    obtain ⟨c1, c2, rfl, g1, g2⟩ := h.of_cons
    obtain ⟨c, rfl, _, g3⟩ := g1.single rfl
    cases g3 with
    | i hc => subst hc; rw [DenL.toInts g2]; rfl
theorem HImp.toInts {hp : List Blk} (y : Nat) (n : Nat) {T : TypeId} {k : IntKind} (l : List (S Int)) (hy : hp[y]? = some (.cells T (l.map fun s => .i k s))) (hn : l.length = n) : HImp hp (hp.set y (.ro [.ints k (.ex n) (l.map S.val)])) := by
  have h1 := HImp.toRo y hy
  have hlt := (List.getElem?_eq_some_iff.1 hy).1
  have h2 := HImp.at (hp := hp.set y (.ro (l.map fun s => .i k s))) y (by rw [List.getElem?_set_self hlt]) (k' := .ro [.ints k (.ex n) (l.map S.val)]) (by
    refine ⟨fun ρ addr o w ⟨cs, g1, g2⟩ => ⟨cs, ?_, g2⟩⟩
    exact .cons cs [] (by simp) (.ints (by simp [hn]) (DenL.toInts g1)) (.nil rfl))
  rw [List.set_set] at h2
  exact h1.trans h2
end
end Go.Vex
