/-
  No cell of these rows narrows 'for every input' (looked for: loops, veiled, ifaces, maps, wideKeys, modest, calm, conditions, laid).
  DERIVED. THE GIVEN ROWS OF THIS SEAT. 6 by the template 'for every input the law returns true; each argument reads behind the call as it read before'; 0 by the template 'total and deterministic' (their statements: YtnefllaeleihcaaTotals.lean).
  GIVEN WITH THE SEED: the statements are not yours to turn. If you find one false, say at which input.
  Laid BY PROGRAM, IN A SANDBOX (cutbox-rows.mjs): the forced cells as the released guide's own fill.sh prints them over the translation cb0d2b1a1529c8fe… (all of the seat's roots in one cut). By AI agents, Wed Nov 11 2026. No macro, syntax, notation, axiom, sorry.
-/
import Derived.Test.YtnefllaeleihcaaChecked
import GoSem.Claim
import GoSem.ClaimJoined
import GoSem.ClaimMapViews
import Derived.JoinedTies
import Derived.KernelRfl
namespace Go.Proofs.Ytnefllaeleihcaa
/- THE CELL 'sum', in the pinned program and in every row, IS THE sha256 OF THE DUMP (.gsa) THAT YtnefllaeleihcaaProg.lean LOADS. Nothing in Lean hashes anything: it is a label: what it is worth is what the hold of that sum in a sandbox is worth. -/
noncomputable def Try.pinned : Pinned := { name := "ytnefllaeleihcaa", sum := "cb0d2b1a1529c8fea05e378d60360221bc7209edf294d1a060153a77fc2cec82", checked := Try.checked }
namespace Rows
def none {H : Type} : Left H := { results := [], args := [] }

/-- 'cloisterlaw7.TablesNeeds': WHATEVER THE INPUT: true; the input reads as it did. -/
def tablesNeedsSpec : ChangeSpec := { name := "tablesNeeds", fn := fun _ => fun
  | [d] => { results := [.lit (.bool true)], args := [d] }
  | _ => none }
def tablesNeedsRow : OpenClaim := { program := "ytnefllaeleihcaa", sum := "cb0d2b1a1529c8fea05e378d60360221bc7209edf294d1a060153a77fc2cec82", func := "cloister/cloisterlaw7.TablesNeeds", spec := "tablesNeeds", unfollowed := true, recurses := true, plainKeys := false, apart := false }
def TablesNeedsSaid : Prop := tablesNeedsRow.holds Try.pinned (OpenSpec.ofChange tablesNeedsSpec)

/-- ITS FALSE NEIGHBOUR: 'it returns false'. Refute it at one input. -/
def tablesNeedsWrong : ChangeSpec := { name := "tablesNeeds", fn := fun _ => fun
  | [d] => { results := [.lit (.bool false)], args := [d] }
  | _ => none }
def TablesNeedsWrongFalsely : Prop := tablesNeedsRow.holds Try.pinned (OpenSpec.ofChange tablesNeedsWrong)

/-- 'cloisterlaw7.TablesSeen': WHATEVER THE INPUT: true; the input reads as it did. -/
def tablesSeenSpec : ChangeSpec := { name := "tablesSeen", fn := fun _ => fun
  | [d1, d2, d3] => { results := [.lit (.bool true)], args := [d1, d2, d3] }
  | _ => none }
def tablesSeenRow : OpenClaim := { program := "ytnefllaeleihcaa", sum := "cb0d2b1a1529c8fea05e378d60360221bc7209edf294d1a060153a77fc2cec82", func := "cloister/cloisterlaw7.TablesSeen", spec := "tablesSeen", unfollowed := true, recurses := true, plainKeys := false, apart := false }
def TablesSeenSaid : Prop := tablesSeenRow.holds Try.pinned (OpenSpec.ofChange tablesSeenSpec)

/-- ITS FALSE NEIGHBOUR: 'it returns false'. Refute it at one input. -/
def tablesSeenWrong : ChangeSpec := { name := "tablesSeen", fn := fun _ => fun
  | [d1, d2, d3] => { results := [.lit (.bool false)], args := [d1, d2, d3] }
  | _ => none }
def TablesSeenWrongFalsely : Prop := tablesSeenRow.holds Try.pinned (OpenSpec.ofChange tablesSeenWrong)

/-- 'cloisterlaw7.TablesWalks': WHATEVER THE INPUT: true; the input reads as it did. -/
def tablesWalksSpec : ChangeSpec := { name := "tablesWalks", fn := fun _ => fun
  | [d1, d2, d3, d4, d5] => { results := [.lit (.bool true)], args := [d1, d2, d3, d4, d5] }
  | _ => none }
def tablesWalksRow : OpenClaim := { program := "ytnefllaeleihcaa", sum := "cb0d2b1a1529c8fea05e378d60360221bc7209edf294d1a060153a77fc2cec82", func := "cloister/cloisterlaw7.TablesWalks", spec := "tablesWalks", unfollowed := true, recurses := true, plainKeys := false, apart := false }
def TablesWalksSaid : Prop := tablesWalksRow.holds Try.pinned (OpenSpec.ofChange tablesWalksSpec)

/-- ITS FALSE NEIGHBOUR: 'it returns false'. Refute it at one input. -/
def tablesWalksWrong : ChangeSpec := { name := "tablesWalks", fn := fun _ => fun
  | [d1, d2, d3, d4, d5] => { results := [.lit (.bool false)], args := [d1, d2, d3, d4, d5] }
  | _ => none }
def TablesWalksWrongFalsely : Prop := tablesWalksRow.holds Try.pinned (OpenSpec.ofChange tablesWalksWrong)

/-- 'cloisterlaw7.TablesAgain': WHATEVER THE INPUT: true; the input reads as it did. -/
def tablesAgainSpec : ChangeSpec := { name := "tablesAgain", fn := fun _ => fun
  | [d] => { results := [.lit (.bool true)], args := [d] }
  | _ => none }
def tablesAgainRow : OpenClaim := { program := "ytnefllaeleihcaa", sum := "cb0d2b1a1529c8fea05e378d60360221bc7209edf294d1a060153a77fc2cec82", func := "cloister/cloisterlaw7.TablesAgain", spec := "tablesAgain", unfollowed := true, recurses := true, plainKeys := false, apart := false }
def TablesAgainSaid : Prop := tablesAgainRow.holds Try.pinned (OpenSpec.ofChange tablesAgainSpec)

/-- ITS FALSE NEIGHBOUR: 'it returns false'. Refute it at one input. -/
def tablesAgainWrong : ChangeSpec := { name := "tablesAgain", fn := fun _ => fun
  | [d] => { results := [.lit (.bool false)], args := [d] }
  | _ => none }
def TablesAgainWrongFalsely : Prop := tablesAgainRow.holds Try.pinned (OpenSpec.ofChange tablesAgainWrong)

/-- 'cloisterlaw7.TablesMany': WHATEVER THE INPUT: true; the input reads as it did. -/
def tablesManySpec : ChangeSpec := { name := "tablesMany", fn := fun _ => fun
  | [d1, d2, d3, d4] => { results := [.lit (.bool true)], args := [d1, d2, d3, d4] }
  | _ => none }
def tablesManyRow : OpenClaim := { program := "ytnefllaeleihcaa", sum := "cb0d2b1a1529c8fea05e378d60360221bc7209edf294d1a060153a77fc2cec82", func := "cloister/cloisterlaw7.TablesMany", spec := "tablesMany", unfollowed := true, recurses := true, plainKeys := false, apart := false }
def TablesManySaid : Prop := tablesManyRow.holds Try.pinned (OpenSpec.ofChange tablesManySpec)

/-- ITS FALSE NEIGHBOUR: 'it returns false'. Refute it at one input. -/
def tablesManyWrong : ChangeSpec := { name := "tablesMany", fn := fun _ => fun
  | [d1, d2, d3, d4] => { results := [.lit (.bool false)], args := [d1, d2, d3, d4] }
  | _ => none }
def TablesManyWrongFalsely : Prop := tablesManyRow.holds Try.pinned (OpenSpec.ofChange tablesManyWrong)

/-- 'cloisterlaw7.TablesRefused': WHATEVER THE INPUT: true; the input reads as it did. -/
def tablesRefusedSpec : ChangeSpec := { name := "tablesRefused", fn := fun _ => fun
  | [d1, d2, d3] => { results := [.lit (.bool true)], args := [d1, d2, d3] }
  | _ => none }
def tablesRefusedRow : OpenClaim := { program := "ytnefllaeleihcaa", sum := "cb0d2b1a1529c8fea05e378d60360221bc7209edf294d1a060153a77fc2cec82", func := "cloister/cloisterlaw7.TablesRefused", spec := "tablesRefused", unfollowed := true, recurses := true, plainKeys := false, apart := false }
def TablesRefusedSaid : Prop := tablesRefusedRow.holds Try.pinned (OpenSpec.ofChange tablesRefusedSpec)

/-- ITS FALSE NEIGHBOUR: 'it returns false'. Refute it at one input. -/
def tablesRefusedWrong : ChangeSpec := { name := "tablesRefused", fn := fun _ => fun
  | [d1, d2, d3] => { results := [.lit (.bool false)], args := [d1, d2, d3] }
  | _ => none }
def TablesRefusedWrongFalsely : Prop := tablesRefusedRow.holds Try.pinned (OpenSpec.ofChange tablesRefusedWrong)

/- THE SECOND FORM. 'bulk': how many values and letters a reading holds, each counted each time it is reached (what is shared counts as often as it is met; a slice's spare places count too). A statement '..UptoSaid' is the law's where the arguments, and the package variables that the reading takes, are together of bulk at most 1048576: NARROWER than '..Said'. Prove '..Said' where nothing that the law and all that it calls make is longer than what came in: it says more and counts as full. Else prove '..UptoSaid'. A law counts once. -/
mutual
def uptoBulk {H : Type} : DataW H → Nat
  | .lit (.string bytes) => bytes.length + 1
  | .lit _ => 1
  | .nil => 1
  | .ptr d => uptoBulk d + 1
  | .slice elems spare => uptoBulkAll elems + uptoBulkAll spare + 1
  | .agg parts => uptoBulkAll parts + 1
  | .iface _ d => uptoBulk d + 1
  | .map entries => uptoBulkEntries entries + 1
  | .held _ => 1
def uptoBulkAll {H : Type} : List (DataW H) → Nat
  | [] => 0
  | d :: r => uptoBulk d + uptoBulkAll r
def uptoBulkEntries {H : Type} : List (Lit × DataW H) → Nat
  | [] => 0
  | x :: r => uptoBulkEntry x + uptoBulkEntries r
def uptoBulkEntry {H : Type} : Lit × DataW H → Nat
  | (.string bytes, d) => bytes.length + uptoBulk d + 1
  | (_, d) => uptoBulk d + 1
 end
def uptoSmall : (H : Type) → List (DataW H) → Bool := fun _ ds => decide (uptoBulkAll ds ≤ 1048576)
def OpenSpec.upto (s : _root_.Go.ChangeSpec) : _root_.Go.OpenSpec := { _root_.Go.OpenSpec.ofChange s with cond := some uptoSmall }

/-- 'cloisterlaw7.TablesNeeds', WHERE WHAT IT READS IS OF BULK AT MOST 1048576: true; the input reads as it did. -/
def tablesNeedsUptoRow : OpenClaim := { program := "ytnefllaeleihcaa", sum := "cb0d2b1a1529c8fea05e378d60360221bc7209edf294d1a060153a77fc2cec82", func := "cloister/cloisterlaw7.TablesNeeds", spec := "tablesNeeds", unfollowed := true, recurses := true, plainKeys := false, apart := false, narrowed := true }
def TablesNeedsUptoSaid : Prop := tablesNeedsUptoRow.holds Try.pinned (OpenSpec.upto tablesNeedsSpec)

/-- 'cloisterlaw7.TablesSeen', WHERE WHAT IT READS IS OF BULK AT MOST 1048576: true; the input reads as it did. -/
def tablesSeenUptoRow : OpenClaim := { program := "ytnefllaeleihcaa", sum := "cb0d2b1a1529c8fea05e378d60360221bc7209edf294d1a060153a77fc2cec82", func := "cloister/cloisterlaw7.TablesSeen", spec := "tablesSeen", unfollowed := true, recurses := true, plainKeys := false, apart := false, narrowed := true }
def TablesSeenUptoSaid : Prop := tablesSeenUptoRow.holds Try.pinned (OpenSpec.upto tablesSeenSpec)

/-- 'cloisterlaw7.TablesWalks', WHERE WHAT IT READS IS OF BULK AT MOST 1048576: true; the input reads as it did. -/
def tablesWalksUptoRow : OpenClaim := { program := "ytnefllaeleihcaa", sum := "cb0d2b1a1529c8fea05e378d60360221bc7209edf294d1a060153a77fc2cec82", func := "cloister/cloisterlaw7.TablesWalks", spec := "tablesWalks", unfollowed := true, recurses := true, plainKeys := false, apart := false, narrowed := true }
def TablesWalksUptoSaid : Prop := tablesWalksUptoRow.holds Try.pinned (OpenSpec.upto tablesWalksSpec)

/-- 'cloisterlaw7.TablesAgain', WHERE WHAT IT READS IS OF BULK AT MOST 1048576: true; the input reads as it did. -/
def tablesAgainUptoRow : OpenClaim := { program := "ytnefllaeleihcaa", sum := "cb0d2b1a1529c8fea05e378d60360221bc7209edf294d1a060153a77fc2cec82", func := "cloister/cloisterlaw7.TablesAgain", spec := "tablesAgain", unfollowed := true, recurses := true, plainKeys := false, apart := false, narrowed := true }
def TablesAgainUptoSaid : Prop := tablesAgainUptoRow.holds Try.pinned (OpenSpec.upto tablesAgainSpec)

/-- 'cloisterlaw7.TablesMany', WHERE WHAT IT READS IS OF BULK AT MOST 1048576: true; the input reads as it did. -/
def tablesManyUptoRow : OpenClaim := { program := "ytnefllaeleihcaa", sum := "cb0d2b1a1529c8fea05e378d60360221bc7209edf294d1a060153a77fc2cec82", func := "cloister/cloisterlaw7.TablesMany", spec := "tablesMany", unfollowed := true, recurses := true, plainKeys := false, apart := false, narrowed := true }
def TablesManyUptoSaid : Prop := tablesManyUptoRow.holds Try.pinned (OpenSpec.upto tablesManySpec)

/-- 'cloisterlaw7.TablesRefused', WHERE WHAT IT READS IS OF BULK AT MOST 1048576: true; the input reads as it did. -/
def tablesRefusedUptoRow : OpenClaim := { program := "ytnefllaeleihcaa", sum := "cb0d2b1a1529c8fea05e378d60360221bc7209edf294d1a060153a77fc2cec82", func := "cloister/cloisterlaw7.TablesRefused", spec := "tablesRefused", unfollowed := true, recurses := true, plainKeys := false, apart := false, narrowed := true }
def TablesRefusedUptoSaid : Prop := tablesRefusedUptoRow.holds Try.pinned (OpenSpec.upto tablesRefusedSpec)

end Rows
end Go.Proofs.Ytnefllaeleihcaa
