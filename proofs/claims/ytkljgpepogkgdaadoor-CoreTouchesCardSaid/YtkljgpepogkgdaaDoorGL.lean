/-
  isa.layouts, laid: the resource that a law begins with. From a walk to a row's contract.
-/
import Derived.Test.YtkljgpepogkgdaaDoorL1
import Derived.Test.YtkljgpepogkgdaaDoorV17
import Derived.Test.YtkljgpepogkgdaaDoorCards
import Derived.Test.YtkljgpepogkgdaaDoorTie
import Derived.WalkKit
import Derived.ProofKit
import Derived.OpenShut
import Derived.Deep.DeepHandedRow
set_option linter.unusedVariables false
set_option linter.unusedSimpArgs false
namespace Go.Proofs.YtkljgpepogkgdaaDoor
open Go Go.Vex Go.ChangeShapes Go.WideShapes Go.ChangeAt Go.RowKit
set_option maxRecDepth 100000
def lawK (f : Nat) (hp0 : List Blk) (svs : List SV) (hp : List Blk) : Prop :=
  ∀ A, OkCall kit f svs (hp0 ++ hp ++ [.abs A]) fun q v hp' => LeOut ((hp0 ++ hp).length + 1) q v hp' false (.b (.lit true)) (hp0 ++ hp ++ [.abs A])
theorem inK_u32 {n : Int} (h : InK .u32 n) : U32 n := by
  simp [InK, Lit.wf, IntKind.min, IntKind.max, IntKind.bits, IntKind.signed] at h
  exact ⟨h.1, by omega⟩
def layN : List Int := [0,0,0,0, 22,18,14,0, 22,18,-1,18, -1,22,18,18, 22,-1,-1,22, 22,-1,-1,0, -1,22,-1,0, -1,-1,-1,26, -1,-1,-1,0]
theorem denL_i64s (ρ : Rho) : ∀ l : List Int, DenL ρ (i64s l) (l.map (Value.int .i64))
  | [] => .nil rfl
  | n :: r => .cons [.int .i64 n] _ rfl (.one _ rfl rfl (.i rfl)) (denL_i64s ρ r)
theorem own : ownKnob Tryd.prog.godebug = none := by kernel_rfl
theorem laidOut : laidOutB Tryd.prog = true := by kernel_rfl
theorem glob_init {W : World} (h : laidMetH Tryd.prog Rows.coreFaultsRow.laid W) : InitSat [some (0, 0)] [.glob 0 layoutsL] W := by
  have hf : (Rows.coreFaultsRow.laid.filter fun x => x.2.handleName?.isSome) = [] := by kernel_rfl
  unfold laidMetH at h
  rw [hf] at h
  have hv : W.var? Tryd.prog "cloister/isa.layouts" = some (layN.map (Value.int .i64)).toArray :=
    laid_cells (name := "cloister/isa.layouts") (rest := []) (g := 0) (t := 110) (n := 9) (ks := List.replicate 36 (some .i64)) (by kernel_rfl) (by kernel_rfl) (by kernel_rfl) (by kernel_rfl) h
  have hg : Tryd.prog.globalNamed "cloister/isa.layouts" = some 0 := by kernel_rfl
  unfold World.var? at hv
  rw [hg] at hv
  simp only [Option.bind_some] at hv
  split at hv
  · rename_i cs T fz hh
    cases hv
    refine InitSat.push (InitSat.nil W) (see := [0]) ⟨layN.map (Value.int .i64), _, T, fz, denL_i64s _ _, rfl, rfl, hh, fun j c hj => by simpa using hj⟩ ?_
    intro b hb
    simp at hb; subst hb
    exact (Array.getElem?_eq_some_iff.1 hh).1
  · cases hv
/-- A world for the witness: the table holds what its initialiser lays. -/
def tabCells : Array Value := #[0,0,0,0, 22,18,14,0, 22,18,-1,18, -1,22,18,18, 22,-1,-1,22, 22,-1,-1,0, -1,22,-1,0, -1,-1,-1,26, -1,-1,-1,0].map fun n => .int .i64 n
noncomputable def laidWorld (os : Os) : World :=
  { World.holding Tryd.prog os ⟨#[], #[], []⟩ with heap := (World.holding Tryd.prog os ⟨#[], #[], []⟩).heap.modify 0 fun
      | .cells _ t frozen => .cells tabCells t frozen
      | o => o }
theorem trodAll_len {H : Type} {enc : TypeId × Value → H} {P : Program} {W : World} {base : Nat} {sp : Nat → Bool} {held : Bool} : ∀ {ts : List Nat} {vals : List Value} {ds : List (DataW H)} {ps : List MemPlace},
    DataW.TrodAll enc P W base sp held ts vals ds ps → ds.length = ts.length
  | [], vals, ds, ps, h => by obtain ⟨_, e, _⟩ := trodAll_nil h; rw [e]; rfl
  | t :: ts, vals, ds, ps, h => by
    obtain ⟨v0, vs0, d0, ds0, p0, q0, _, e0, _, _, r0⟩ := trodAll_cons h
    rw [e0]; simp [trodAll_len r0]
end Go.Proofs.YtkljgpepogkgdaaDoor
