/-
  VEX, part 17: from a walk to a row's contract: the world's old blocks are as they were.
-/
import Derived.Test.YtkljgpepogkgdaaDoorV16
import Derived.Below
import Derived.Carry
import Derived.ChangeSame
import Derived.RowKit
import Derived.OpenShut
namespace Go.Vex
open Go.RowKit Go.ChangeShapes
set_option linter.unusedVariables false
noncomputable section

/-- What is there at first: resources that own nothing. -/
def InitSat (ρ : Rho) (hp : List Blk) (W : World) : Prop := ∃ ω, HSatO ρ ω hp W ∧ ∀ (x : Nat) (o : Own), ω[x]? = some o → o.own = []

theorem InitSat.nil (W : World) : InitSat [] [] W := by
  refine ⟨[], ⟨rfl, rfl, ?_, ?_, ?_⟩, ?_⟩ <;> (intros; simp_all)
theorem InitSat.push {ρ : Rho} {hp : List Blk} {W : World} (h : InitSat ρ hp W) {r : Option (Nat × Nat)} {k : Blk} {see : List Nat} (hk : BSat (ρ ++ [r]) r ⟨[], see⟩ W k) (hsee : ∀ b ∈ see, b < W.heap.size) : InitSat (ρ ++ [r]) (hp ++ [k]) W := by
  obtain ⟨ω, h, ho⟩ := h
  have own : ∀ (x : Nat) (o : Own), (ω ++ [⟨[], see⟩])[x]? = some o → o.own = [] := by
    intro x o hx
    rcases getElem?_snoc _ _ _ _ hx with ⟨_, hx⟩ | ⟨_, hx⟩
    · exact ho x o hx
    · subst hx; rfl
  refine ⟨ω ++ [⟨[], see⟩], ⟨by simp [h.lenω], by simp [h.lenh], ?_, ?_, ?_⟩, own⟩
  · intro y a o' k' h1 h2 h3
    rcases getElem?_snoc _ _ _ _ h1 with ⟨hy, h1'⟩ | ⟨hy, h1'⟩
    · rcases getElem?_snoc _ _ _ _ h2 with ⟨_, h2'⟩ | ⟨hy2, _⟩
      · rcases getElem?_snoc _ _ _ _ h3 with ⟨_, h3'⟩ | ⟨hy3, _⟩
        · exact (h.sat y a o' k' h1' h2' h3').mono (Ext.push _ _)
        · exact absurd hy3 (by rw [h.lenh]; omega)
      · exact absurd hy2 (by rw [h.lenω]; omega)
    · subst h1'
      rcases getElem?_snoc _ _ _ _ h2 with ⟨hy2, _⟩ | ⟨_, h2'⟩
      · exact absurd hy2 (by rw [h.lenω]; omega)
      · rcases getElem?_snoc _ _ _ _ h3 with ⟨hy3, _⟩ | ⟨_, h3'⟩
        · exact absurd hy3 (by rw [h.lenh]; omega)
        · subst h2'; subst h3'; exact hk
  · intro x y ox oy hx hy b hb
    rw [own x ox hx] at hb; simp at hb
  · intro x ox hx b hb
    rcases getElem?_snoc _ _ _ _ hx with ⟨_, hx'⟩ | ⟨_, hx'⟩
    · exact h.bnd x ox hx' b hb
    · subst hx'
      rcases hb with hb | hb
      · simp at hb
      · exact hsee b hb
/-- The whole old world, looked at. -/
def allA (W : World) (addr : Option (Nat × Nat)) (o : Own) (w' : World) : Prop := o = ⟨[], List.range W.heap.size⟩ ∧ agree ⟨[], List.range W.heap.size⟩ W w'

theorem calls_of_ok {C : Kit} {f : Nat} {svs : List SV} {hp : List Blk} {ρ : Rho} {W : World} {vals : List Value}
    (h : ∀ A, OkCall C f svs (hp ++ [.abs A]) fun q v hp' => LeOut (hp.length + 1) q v hp' false (.b (.lit true)) (hp ++ [.abs A]))
    (hd : DenT ρ svs vals) (hs : InitSat ρ hp W) : Calls C.P f vals.toArray W fun e w' => e = .returned (.bool true) ∧ Below W.heap.size W w' := by
  have hlen : hp.length = ρ.length := let ⟨_, h, _⟩ := hs; h.lenh
  have hs' : InitSat (ρ ++ [none]) (hp ++ [.abs (allA W)]) W := hs.push (see := List.range W.heap.size) (fun w' hw => ⟨rfl, hw⟩) (by simp)
  obtain ⟨ω, hω, _⟩ := hs'
  have h2 := OkCall.out' (K := fun q v hp' => v = .b (.lit true) ∧ hp' = hp ++ [.abs (allA W)]) ⟨(h (allA W)).ok, fun ρ w vals hd hs => ((h (allA W)).out ρ w vals hd hs).mono fun e w' he => by
    obtain ⟨q, ρ', v, c, hp', rfl, k1, k2, k3, k4, k5, k6⟩ := he
    exact ⟨q, ρ', v, c, hp', rfl, k1, k2, k3, k4, k5, false, _, _, by simpa using k6, rfl, rfl⟩⟩
  refine (h2.out (ρ ++ [none]) W vals (hd.mono (Ext.push _ _)) ⟨ω, hω⟩).mono ?_
  rintro e w' ⟨q, ρ', v, c, hp', rfl, k1, k2, ⟨ω', k3⟩, k4, k5, rfl, rfl⟩
  cases k2 with
  | b hb =>
    subst hb
    refine ⟨rfl, k4.os, k4.tape, k4.output, k4.size, ?_⟩
    have hl : ω'.length = hp.length + 1 := by rw [k3.lenω, ← k3.lenh]; simp
    have h1 : ρ'[hp.length]? = some none := k1 _ _ (by rw [hlen]; simp)
    have h3 : ω'[hp.length]? = some (ω'[hp.length]'(by omega)) := by simp
    have := k3.sat hp.length none _ (.abs (allA W)) h1 h3 (by simp) w' (agree.refl _ _)
    intro k hk
    exact this.2 k (.inr (by simpa using hk))
end
end Go.Vex
