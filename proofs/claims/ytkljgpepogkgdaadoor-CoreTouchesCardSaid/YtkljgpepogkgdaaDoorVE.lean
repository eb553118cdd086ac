/-
  VEX, draws, 2: what single operations do to all worlds in which they may be carried out; which of them commute.
-/
import Derived.Test.YtkljgpepogkgdaaDoorV3
set_option linter.unusedSimpArgs false
namespace Go.Vex
set_option linter.unusedVariables false

/-- It reads these cells. -/
def rdB (b off : Nat) (cs : List Value) (u : Value) : Beh := Beh.det (fun x => ∀ (j : Nat) (c : Value), cs[j]? = some c → x.cell? ⟨b, off + j, none⟩ = some c) id fun _ => u
/-- It writes these cells. -/
abbrev wrW := stored
def wrB (b off : Nat) (vs : List Value) (T : TypeId) : Beh :=
  Beh.det (fun x => ∃ cs : List Value, x.heap[b]? = some (.cells cs.toArray T (0, 0)) ∧ off + vs.length ≤ cs.length) (wrW b off vs) fun _ => undef
/-- It makes a block. -/
def newB (N : Nat) (o : Obj) (mk : Nat → Value) : Beh := Beh.det (fun x => N ≤ x.heap.size) (fun x => x.alloc o) fun x => mk x.heap.size
/-- It calls what reads alone. -/
def qcB (w : World) (u : Value) : Beh := Beh.det (fun x => x.heap = w.heap ∧ x.os = w.os ∧ x.tape = w.tape ∧ x.output = w.output) id fun _ => u

theorem rdB_inv (b off : Nat) (cs : List Value) (u : Value) : (rdB b off cs u).Inv := Beh.det_inv (fun _ _ h => h) (fun _ _ => rfl) (fun _ _ => rfl)
theorem wrB_inv (b off : Nat) (vs : List Value) (T : TypeId) : (wrB b off vs T).Inv := by
  refine Beh.det_inv (fun _ _ h => h) (fun x n => ?_) (fun _ _ => rfl)
  show wrW b off vs (x.drewN n) = (wrW b off vs x).drewN n
  unfold wrW stored
  rw [World.heap_drewN]
  cases h : x.heap[b]? with
  | none => rfl
  | some o => cases o <;> rfl
theorem newB_inv (N : Nat) (o : Obj) (mk : Nat → Value) : (newB N o mk).Inv := Beh.det_inv (fun _ _ h => h) (fun _ _ => rfl) (fun _ _ => rfl)
theorem qcB_inv (w : World) (u : Value) : (qcB w u).Inv := Beh.det_inv (fun _ _ h => h) (fun _ _ => rfl) (fun _ _ => rfl)

end Go.Vex
