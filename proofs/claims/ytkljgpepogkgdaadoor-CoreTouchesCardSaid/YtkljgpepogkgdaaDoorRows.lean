/-
  NARROWER THAN 'FOR EVERY INPUT', by the rows' own cells (each row's printed sentence says how): CoreSteps: laid · CoreFaults: laid · CoreBack: laid · CoreResets: laid · CoreWords: laid · CoreSums: laid · CoreGoes: laid · CoreTouches: laid.
  DERIVED. THE GIVEN ROWS OF THIS SEAT. 8 by the template 'for every input the law returns true; each argument reads behind the call as it read before'; 0 by the template 'total and deterministic' (their statements: YtkljgpepogkgdaaDoorTotals.lean).
  GIVEN WITH THE SEED: the statements are not yours to turn. If you find one false, say at which input.
  Laid BY PROGRAM, IN A SANDBOX (cutbox-rows.mjs): the forced cells as the released guide's own fill.sh prints them over the translation 1f1694554b297599… (all of the seat's roots in one cut). By AI agents, Wed Nov 11 2026. No macro, syntax, notation, axiom, sorry.
-/
import Derived.Test.YtkljgpepogkgdaaDoorChecked
import GoSem.Claim
import GoSem.ClaimJoined
import GoSem.ClaimMapViews
import Derived.JoinedTies
import Derived.KernelRfl
namespace Go.Proofs.YtkljgpepogkgdaaDoor
/- THE CELL 'sum', in the pinned program and in every row, IS THE sha256 OF THE DUMP (.gsa) THAT YtkljgpepogkgdaaDoorProg.lean LOADS. Nothing in Lean hashes anything: it is a label: what it is worth is what the hold of that sum in a sandbox is worth. -/
noncomputable def Tryd.pinned : Pinned := { name := "ytkljgpepogkgdaadoor", sum := "1f1694554b297599f692937cf4887e059084a5a599de87247a629bebd09e9164", checked := Tryd.checked }
namespace Rows
def none {H : Type} : Left H := { results := [], args := [] }

/- WHAT THE LISTED PACKAGE-LEVEL VARIABLES READ AS WHEN THE CALL BEGINS. Each datum BY PROGRAM (the guide's laid-datum.mjs) off the statement by which the dump's own 'gosem.cut.vars' lays the variable. In a bare row this is a premise. The card (YtkljgpepogkgdaaDoorCards.lean) ties it to the program's text. -/
def laid_cloister_isa_layouts {H : Type} : DataW H := .agg [.agg [.lit (.int .i64 0), .lit (.int .i64 0), .lit (.int .i64 0), .lit (.int .i64 0)], .agg [.lit (.int .i64 22), .lit (.int .i64 18), .lit (.int .i64 14), .lit (.int .i64 0)], .agg [.lit (.int .i64 22), .lit (.int .i64 18), .lit (.int .i64 (-1)), .lit (.int .i64 18)], .agg [.lit (.int .i64 (-1)), .lit (.int .i64 22), .lit (.int .i64 18), .lit (.int .i64 18)], .agg [.lit (.int .i64 22), .lit (.int .i64 (-1)), .lit (.int .i64 (-1)), .lit (.int .i64 22)], .agg [.lit (.int .i64 22), .lit (.int .i64 (-1)), .lit (.int .i64 (-1)), .lit (.int .i64 0)], .agg [.lit (.int .i64 (-1)), .lit (.int .i64 22), .lit (.int .i64 (-1)), .lit (.int .i64 0)], .agg [.lit (.int .i64 (-1)), .lit (.int .i64 (-1)), .lit (.int .i64 (-1)), .lit (.int .i64 26)], .agg [.lit (.int .i64 (-1)), .lit (.int .i64 (-1)), .lit (.int .i64 (-1)), .lit (.int .i64 0)]]

/-- 'cloisterlaw12.CoreSteps': WHATEVER THE INPUT: true; the input reads as it did. -/
def coreStepsSpec : ChangeSpec := { name := "coreSteps", fn := fun _ => fun
  | [d1, d2, d3] => { results := [.lit (.bool true)], args := [d1, d2, d3] }
  | _ => none }
def coreStepsRow : OpenClaim := { program := "ytkljgpepogkgdaadoor", sum := "1f1694554b297599f692937cf4887e059084a5a599de87247a629bebd09e9164", func := "cloister/cloisterlaw12.CoreSteps", spec := "coreSteps", unfollowed := true, recurses := true, named := ["cloister/isa.layouts"], apart := false, laid := [("cloister/isa.layouts", laid_cloister_isa_layouts)] }
def CoreStepsSaid : Prop := coreStepsRow.holds Tryd.pinned (OpenSpec.ofChange coreStepsSpec)

/-- ITS FALSE NEIGHBOUR: 'it returns false'. Refute it at one input. -/
def coreStepsWrong : ChangeSpec := { name := "coreSteps", fn := fun _ => fun
  | [d1, d2, d3] => { results := [.lit (.bool false)], args := [d1, d2, d3] }
  | _ => none }
def CoreStepsWrongFalsely : Prop := coreStepsRow.holds Tryd.pinned (OpenSpec.ofChange coreStepsWrong)

/-- 'cloisterlaw12.CoreFaults': WHATEVER THE INPUT: true; the input reads as it did. -/
def coreFaultsSpec : ChangeSpec := { name := "coreFaults", fn := fun _ => fun
  | [d1, d2, d3, d4, d5] => { results := [.lit (.bool true)], args := [d1, d2, d3, d4, d5] }
  | _ => none }
def coreFaultsRow : OpenClaim := { program := "ytkljgpepogkgdaadoor", sum := "1f1694554b297599f692937cf4887e059084a5a599de87247a629bebd09e9164", func := "cloister/cloisterlaw12.CoreFaults", spec := "coreFaults", unfollowed := true, recurses := true, named := ["cloister/isa.layouts"], apart := false, laid := [("cloister/isa.layouts", laid_cloister_isa_layouts)] }
def CoreFaultsSaid : Prop := coreFaultsRow.holds Tryd.pinned (OpenSpec.ofChange coreFaultsSpec)

/-- ITS FALSE NEIGHBOUR: 'it returns false'. Refute it at one input. -/
def coreFaultsWrong : ChangeSpec := { name := "coreFaults", fn := fun _ => fun
  | [d1, d2, d3, d4, d5] => { results := [.lit (.bool false)], args := [d1, d2, d3, d4, d5] }
  | _ => none }
def CoreFaultsWrongFalsely : Prop := coreFaultsRow.holds Tryd.pinned (OpenSpec.ofChange coreFaultsWrong)

/-- 'cloisterlaw12.CoreBack': WHATEVER THE INPUT: true; the input reads as it did. -/
def coreBackSpec : ChangeSpec := { name := "coreBack", fn := fun _ => fun
  | [d1, d2, d3] => { results := [.lit (.bool true)], args := [d1, d2, d3] }
  | _ => none }
def coreBackRow : OpenClaim := { program := "ytkljgpepogkgdaadoor", sum := "1f1694554b297599f692937cf4887e059084a5a599de87247a629bebd09e9164", func := "cloister/cloisterlaw12.CoreBack", spec := "coreBack", unfollowed := true, recurses := true, named := ["cloister/isa.layouts"], apart := false, laid := [("cloister/isa.layouts", laid_cloister_isa_layouts)] }
def CoreBackSaid : Prop := coreBackRow.holds Tryd.pinned (OpenSpec.ofChange coreBackSpec)

/-- ITS FALSE NEIGHBOUR: 'it returns false'. Refute it at one input. -/
def coreBackWrong : ChangeSpec := { name := "coreBack", fn := fun _ => fun
  | [d1, d2, d3] => { results := [.lit (.bool false)], args := [d1, d2, d3] }
  | _ => none }
def CoreBackWrongFalsely : Prop := coreBackRow.holds Tryd.pinned (OpenSpec.ofChange coreBackWrong)

/-- 'cloisterlaw12.CoreResets': WHATEVER THE INPUT: true; the input reads as it did. -/
def coreResetsSpec : ChangeSpec := { name := "coreResets", fn := fun _ => fun
  | [d1, d2, d3] => { results := [.lit (.bool true)], args := [d1, d2, d3] }
  | _ => none }
def coreResetsRow : OpenClaim := { program := "ytkljgpepogkgdaadoor", sum := "1f1694554b297599f692937cf4887e059084a5a599de87247a629bebd09e9164", func := "cloister/cloisterlaw12.CoreResets", spec := "coreResets", unfollowed := true, recurses := true, named := ["cloister/isa.layouts"], apart := false, laid := [("cloister/isa.layouts", laid_cloister_isa_layouts)] }
def CoreResetsSaid : Prop := coreResetsRow.holds Tryd.pinned (OpenSpec.ofChange coreResetsSpec)

/-- ITS FALSE NEIGHBOUR: 'it returns false'. Refute it at one input. -/
def coreResetsWrong : ChangeSpec := { name := "coreResets", fn := fun _ => fun
  | [d1, d2, d3] => { results := [.lit (.bool false)], args := [d1, d2, d3] }
  | _ => none }
def CoreResetsWrongFalsely : Prop := coreResetsRow.holds Tryd.pinned (OpenSpec.ofChange coreResetsWrong)

/-- 'cloisterlaw12.CoreWords': WHATEVER THE INPUT: true; the input reads as it did. -/
def coreWordsSpec : ChangeSpec := { name := "coreWords", fn := fun _ => fun
  | [d1, d2, d3, d4] => { results := [.lit (.bool true)], args := [d1, d2, d3, d4] }
  | _ => none }
def coreWordsRow : OpenClaim := { program := "ytkljgpepogkgdaadoor", sum := "1f1694554b297599f692937cf4887e059084a5a599de87247a629bebd09e9164", func := "cloister/cloisterlaw12.CoreWords", spec := "coreWords", unfollowed := true, recurses := true, named := ["cloister/isa.layouts"], apart := false, laid := [("cloister/isa.layouts", laid_cloister_isa_layouts)] }
def CoreWordsSaid : Prop := coreWordsRow.holds Tryd.pinned (OpenSpec.ofChange coreWordsSpec)

/-- ITS FALSE NEIGHBOUR: 'it returns false'. Refute it at one input. -/
def coreWordsWrong : ChangeSpec := { name := "coreWords", fn := fun _ => fun
  | [d1, d2, d3, d4] => { results := [.lit (.bool false)], args := [d1, d2, d3, d4] }
  | _ => none }
def CoreWordsWrongFalsely : Prop := coreWordsRow.holds Tryd.pinned (OpenSpec.ofChange coreWordsWrong)

/-- 'cloisterlaw12.CoreSums': WHATEVER THE INPUT: true; the input reads as it did. -/
def coreSumsSpec : ChangeSpec := { name := "coreSums", fn := fun _ => fun
  | [d1, d2, d3] => { results := [.lit (.bool true)], args := [d1, d2, d3] }
  | _ => none }
def coreSumsRow : OpenClaim := { program := "ytkljgpepogkgdaadoor", sum := "1f1694554b297599f692937cf4887e059084a5a599de87247a629bebd09e9164", func := "cloister/cloisterlaw12.CoreSums", spec := "coreSums", unfollowed := true, recurses := true, named := ["cloister/isa.layouts"], apart := false, laid := [("cloister/isa.layouts", laid_cloister_isa_layouts)] }
def CoreSumsSaid : Prop := coreSumsRow.holds Tryd.pinned (OpenSpec.ofChange coreSumsSpec)

/-- ITS FALSE NEIGHBOUR: 'it returns false'. Refute it at one input. -/
def coreSumsWrong : ChangeSpec := { name := "coreSums", fn := fun _ => fun
  | [d1, d2, d3] => { results := [.lit (.bool false)], args := [d1, d2, d3] }
  | _ => none }
def CoreSumsWrongFalsely : Prop := coreSumsRow.holds Tryd.pinned (OpenSpec.ofChange coreSumsWrong)

/-- 'cloisterlaw12.CoreGoes': WHATEVER THE INPUT: true; the input reads as it did. -/
def coreGoesSpec : ChangeSpec := { name := "coreGoes", fn := fun _ => fun
  | [d1, d2, d3] => { results := [.lit (.bool true)], args := [d1, d2, d3] }
  | _ => none }
def coreGoesRow : OpenClaim := { program := "ytkljgpepogkgdaadoor", sum := "1f1694554b297599f692937cf4887e059084a5a599de87247a629bebd09e9164", func := "cloister/cloisterlaw12.CoreGoes", spec := "coreGoes", unfollowed := true, recurses := true, named := ["cloister/isa.layouts"], apart := false, laid := [("cloister/isa.layouts", laid_cloister_isa_layouts)] }
def CoreGoesSaid : Prop := coreGoesRow.holds Tryd.pinned (OpenSpec.ofChange coreGoesSpec)

/-- ITS FALSE NEIGHBOUR: 'it returns false'. Refute it at one input. -/
def coreGoesWrong : ChangeSpec := { name := "coreGoes", fn := fun _ => fun
  | [d1, d2, d3] => { results := [.lit (.bool false)], args := [d1, d2, d3] }
  | _ => none }
def CoreGoesWrongFalsely : Prop := coreGoesRow.holds Tryd.pinned (OpenSpec.ofChange coreGoesWrong)

/-- 'cloisterlaw12.CoreTouches': WHATEVER THE INPUT: true; the input reads as it did. -/
def coreTouchesSpec : ChangeSpec := { name := "coreTouches", fn := fun _ => fun
  | [d1, d2, d3, d4, d5] => { results := [.lit (.bool true)], args := [d1, d2, d3, d4, d5] }
  | _ => none }
def coreTouchesRow : OpenClaim := { program := "ytkljgpepogkgdaadoor", sum := "1f1694554b297599f692937cf4887e059084a5a599de87247a629bebd09e9164", func := "cloister/cloisterlaw12.CoreTouches", spec := "coreTouches", unfollowed := true, recurses := true, named := ["cloister/isa.layouts"], apart := false, laid := [("cloister/isa.layouts", laid_cloister_isa_layouts)] }
def CoreTouchesSaid : Prop := coreTouchesRow.holds Tryd.pinned (OpenSpec.ofChange coreTouchesSpec)

/-- ITS FALSE NEIGHBOUR: 'it returns false'. Refute it at one input. -/
def coreTouchesWrong : ChangeSpec := { name := "coreTouches", fn := fun _ => fun
  | [d1, d2, d3, d4, d5] => { results := [.lit (.bool false)], args := [d1, d2, d3, d4, d5] }
  | _ => none }
def CoreTouchesWrongFalsely : Prop := coreTouchesRow.holds Tryd.pinned (OpenSpec.ofChange coreTouchesWrong)

/- THE SECOND FORM. 'bulk': how many values and letters a reading holds, each counted each time it is reached (what is shared counts as often as it is met; a slice's spare places count too). A statement '..UptoSaid' is the law's where the arguments, and the package variables that the reading takes, are together of bulk at most 1048576: NARROWER than '..Said'. Prove '..Said' where nothing that the law and all that it calls make is longer than what came in: it says more and counts as full. Else prove '..UptoSaid'. A law counts once. -/
mutual
def uptoBulk {H : Type} : DataW H → Nat
  | .lit (.string bytes) => bytes.length + 1
  | .lit _ => 1
  | .nil => 1
  | .ptr d => uptoBulk d + 1
  | .slice elems spare => uptoBulkAll elems + uptoBulkAll spare + 1
  | .agg parts => uptoBulkAll parts + 1
  | .iface _ d => uptoBulk d + 1
  | .map entries => uptoBulkEntries entries + 1
  | .held _ => 1
def uptoBulkAll {H : Type} : List (DataW H) → Nat
  | [] => 0
  | d :: r => uptoBulk d + uptoBulkAll r
def uptoBulkEntries {H : Type} : List (Lit × DataW H) → Nat
  | [] => 0
  | x :: r => uptoBulkEntry x + uptoBulkEntries r
def uptoBulkEntry {H : Type} : Lit × DataW H → Nat
  | (.string bytes, d) => bytes.length + uptoBulk d + 1
  | (_, d) => uptoBulk d + 1
 end
def uptoSmall : (H : Type) → List (DataW H) → Bool := fun _ ds => decide (uptoBulkAll ds ≤ 1048576)
def OpenSpec.upto (s : _root_.Go.ChangeSpec) : _root_.Go.OpenSpec := { _root_.Go.OpenSpec.ofChange s with cond := some uptoSmall }

/-- 'cloisterlaw12.CoreSteps', WHERE WHAT IT READS IS OF BULK AT MOST 1048576: true; the input reads as it did. -/
def coreStepsUptoRow : OpenClaim := { program := "ytkljgpepogkgdaadoor", sum := "1f1694554b297599f692937cf4887e059084a5a599de87247a629bebd09e9164", func := "cloister/cloisterlaw12.CoreSteps", spec := "coreSteps", unfollowed := true, recurses := true, named := ["cloister/isa.layouts"], apart := false, laid := [("cloister/isa.layouts", laid_cloister_isa_layouts)], narrowed := true }
def CoreStepsUptoSaid : Prop := coreStepsUptoRow.holds Tryd.pinned (OpenSpec.upto coreStepsSpec)

/-- 'cloisterlaw12.CoreFaults', WHERE WHAT IT READS IS OF BULK AT MOST 1048576: true; the input reads as it did. -/
def coreFaultsUptoRow : OpenClaim := { program := "ytkljgpepogkgdaadoor", sum := "1f1694554b297599f692937cf4887e059084a5a599de87247a629bebd09e9164", func := "cloister/cloisterlaw12.CoreFaults", spec := "coreFaults", unfollowed := true, recurses := true, named := ["cloister/isa.layouts"], apart := false, laid := [("cloister/isa.layouts", laid_cloister_isa_layouts)], narrowed := true }
def CoreFaultsUptoSaid : Prop := coreFaultsUptoRow.holds Tryd.pinned (OpenSpec.upto coreFaultsSpec)

/-- 'cloisterlaw12.CoreBack', WHERE WHAT IT READS IS OF BULK AT MOST 1048576: true; the input reads as it did. -/
def coreBackUptoRow : OpenClaim := { program := "ytkljgpepogkgdaadoor", sum := "1f1694554b297599f692937cf4887e059084a5a599de87247a629bebd09e9164", func := "cloister/cloisterlaw12.CoreBack", spec := "coreBack", unfollowed := true, recurses := true, named := ["cloister/isa.layouts"], apart := false, laid := [("cloister/isa.layouts", laid_cloister_isa_layouts)], narrowed := true }
def CoreBackUptoSaid : Prop := coreBackUptoRow.holds Tryd.pinned (OpenSpec.upto coreBackSpec)

/-- 'cloisterlaw12.CoreResets', WHERE WHAT IT READS IS OF BULK AT MOST 1048576: true; the input reads as it did. -/
def coreResetsUptoRow : OpenClaim := { program := "ytkljgpepogkgdaadoor", sum := "1f1694554b297599f692937cf4887e059084a5a599de87247a629bebd09e9164", func := "cloister/cloisterlaw12.CoreResets", spec := "coreResets", unfollowed := true, recurses := true, named := ["cloister/isa.layouts"], apart := false, laid := [("cloister/isa.layouts", laid_cloister_isa_layouts)], narrowed := true }
def CoreResetsUptoSaid : Prop := coreResetsUptoRow.holds Tryd.pinned (OpenSpec.upto coreResetsSpec)

/-- 'cloisterlaw12.CoreWords', WHERE WHAT IT READS IS OF BULK AT MOST 1048576: true; the input reads as it did. -/
def coreWordsUptoRow : OpenClaim := { program := "ytkljgpepogkgdaadoor", sum := "1f1694554b297599f692937cf4887e059084a5a599de87247a629bebd09e9164", func := "cloister/cloisterlaw12.CoreWords", spec := "coreWords", unfollowed := true, recurses := true, named := ["cloister/isa.layouts"], apart := false, laid := [("cloister/isa.layouts", laid_cloister_isa_layouts)], narrowed := true }
def CoreWordsUptoSaid : Prop := coreWordsUptoRow.holds Tryd.pinned (OpenSpec.upto coreWordsSpec)

/-- 'cloisterlaw12.CoreSums', WHERE WHAT IT READS IS OF BULK AT MOST 1048576: true; the input reads as it did. -/
def coreSumsUptoRow : OpenClaim := { program := "ytkljgpepogkgdaadoor", sum := "1f1694554b297599f692937cf4887e059084a5a599de87247a629bebd09e9164", func := "cloister/cloisterlaw12.CoreSums", spec := "coreSums", unfollowed := true, recurses := true, named := ["cloister/isa.layouts"], apart := false, laid := [("cloister/isa.layouts", laid_cloister_isa_layouts)], narrowed := true }
def CoreSumsUptoSaid : Prop := coreSumsUptoRow.holds Tryd.pinned (OpenSpec.upto coreSumsSpec)

/-- 'cloisterlaw12.CoreGoes', WHERE WHAT IT READS IS OF BULK AT MOST 1048576: true; the input reads as it did. -/
def coreGoesUptoRow : OpenClaim := { program := "ytkljgpepogkgdaadoor", sum := "1f1694554b297599f692937cf4887e059084a5a599de87247a629bebd09e9164", func := "cloister/cloisterlaw12.CoreGoes", spec := "coreGoes", unfollowed := true, recurses := true, named := ["cloister/isa.layouts"], apart := false, laid := [("cloister/isa.layouts", laid_cloister_isa_layouts)], narrowed := true }
def CoreGoesUptoSaid : Prop := coreGoesUptoRow.holds Tryd.pinned (OpenSpec.upto coreGoesSpec)

/-- 'cloisterlaw12.CoreTouches', WHERE WHAT IT READS IS OF BULK AT MOST 1048576: true; the input reads as it did. -/
def coreTouchesUptoRow : OpenClaim := { program := "ytkljgpepogkgdaadoor", sum := "1f1694554b297599f692937cf4887e059084a5a599de87247a629bebd09e9164", func := "cloister/cloisterlaw12.CoreTouches", spec := "coreTouches", unfollowed := true, recurses := true, named := ["cloister/isa.layouts"], apart := false, laid := [("cloister/isa.layouts", laid_cloister_isa_layouts)], narrowed := true }
def CoreTouchesUptoSaid : Prop := coreTouchesUptoRow.holds Tryd.pinned (OpenSpec.upto coreTouchesSpec)

end Rows
end Go.Proofs.YtkljgpepogkgdaaDoor
