/-
  DERIVED. GIVEN WITH THE SEED: THE CARDS: each row of YtkljgpepogkgdaaDoorRows.lean that lists a variable, with what it lists TIED to the program's text (the seventh form; the later family's looks); each row that meets fmt, with fmt's text TOLD by the authors' own Lean function (tested against real Go, not proved from fmt's source: count such statements apart). THE CARD IS WHAT COUNTS. Prove the row's statement (the work); the ties are given (YtkljgpepogkgdaaDoorTie.lean); close each card by the builder's one call (the guide's Derived/Test/ToyasCard.lean, 'card_holds'). Laid BY PROGRAM, IN A SANDBOX (cutbox-door.mjs). By AI agents, Wed Nov 11 2026. No macro, syntax, notation, axiom, sorry.
-/
import Derived.Test.YtkljgpepogkgdaaDoorRows
import GoSem.ClaimSeven
namespace Go.Proofs.YtkljgpepogkgdaaDoor
namespace Rows

/-- THE TIED CARD OF 'cloisterlaw12.CoreSteps'. -/
def coreStepsCard : Claim7 := { stood := { row := coreStepsRow, standIns := [], harness := (true, "a9a64ff890b6f43227daa65d0b0cf81906d97e1f0013136e3aff617ceebe4fd3"), looks := false }, kinds := [], alts := [], laidByText := true, laidKinds := [.data], laidTests := true, laidLooks := .later }
def CoreStepsCardSaid : Prop := Claim7.holds Tryd.pinned (.plain (OpenSpec.ofChange coreStepsSpec)) coreStepsCard

/-- THE TIED CARD OF 'cloisterlaw12.CoreFaults'. -/
def coreFaultsCard : Claim7 := { stood := { row := coreFaultsRow, standIns := [], harness := (true, "a9a64ff890b6f43227daa65d0b0cf81906d97e1f0013136e3aff617ceebe4fd3"), looks := false }, kinds := [], alts := [], laidByText := true, laidKinds := [.data], laidTests := true, laidLooks := .later }
def CoreFaultsCardSaid : Prop := Claim7.holds Tryd.pinned (.plain (OpenSpec.ofChange coreFaultsSpec)) coreFaultsCard

/-- THE TIED CARD OF 'cloisterlaw12.CoreBack'. -/
def coreBackCard : Claim7 := { stood := { row := coreBackRow, standIns := [], harness := (true, "a9a64ff890b6f43227daa65d0b0cf81906d97e1f0013136e3aff617ceebe4fd3"), looks := false }, kinds := [], alts := [], laidByText := true, laidKinds := [.data], laidTests := true, laidLooks := .later }
def CoreBackCardSaid : Prop := Claim7.holds Tryd.pinned (.plain (OpenSpec.ofChange coreBackSpec)) coreBackCard

/-- THE TIED CARD OF 'cloisterlaw12.CoreResets'. -/
def coreResetsCard : Claim7 := { stood := { row := coreResetsRow, standIns := [], harness := (true, "a9a64ff890b6f43227daa65d0b0cf81906d97e1f0013136e3aff617ceebe4fd3"), looks := false }, kinds := [], alts := [], laidByText := true, laidKinds := [.data], laidTests := true, laidLooks := .later }
def CoreResetsCardSaid : Prop := Claim7.holds Tryd.pinned (.plain (OpenSpec.ofChange coreResetsSpec)) coreResetsCard

/-- THE TIED CARD OF 'cloisterlaw12.CoreWords'. -/
def coreWordsCard : Claim7 := { stood := { row := coreWordsRow, standIns := [], harness := (true, "a9a64ff890b6f43227daa65d0b0cf81906d97e1f0013136e3aff617ceebe4fd3"), looks := false }, kinds := [], alts := [], laidByText := true, laidKinds := [.data], laidTests := true, laidLooks := .later }
def CoreWordsCardSaid : Prop := Claim7.holds Tryd.pinned (.plain (OpenSpec.ofChange coreWordsSpec)) coreWordsCard

/-- THE TIED CARD OF 'cloisterlaw12.CoreSums'. -/
def coreSumsCard : Claim7 := { stood := { row := coreSumsRow, standIns := [], harness := (true, "a9a64ff890b6f43227daa65d0b0cf81906d97e1f0013136e3aff617ceebe4fd3"), looks := false }, kinds := [], alts := [], laidByText := true, laidKinds := [.data], laidTests := true, laidLooks := .later }
def CoreSumsCardSaid : Prop := Claim7.holds Tryd.pinned (.plain (OpenSpec.ofChange coreSumsSpec)) coreSumsCard

/-- THE TIED CARD OF 'cloisterlaw12.CoreGoes'. -/
def coreGoesCard : Claim7 := { stood := { row := coreGoesRow, standIns := [], harness := (true, "a9a64ff890b6f43227daa65d0b0cf81906d97e1f0013136e3aff617ceebe4fd3"), looks := false }, kinds := [], alts := [], laidByText := true, laidKinds := [.data], laidTests := true, laidLooks := .later }
def CoreGoesCardSaid : Prop := Claim7.holds Tryd.pinned (.plain (OpenSpec.ofChange coreGoesSpec)) coreGoesCard

/-- THE TIED CARD OF 'cloisterlaw12.CoreTouches'. -/
def coreTouchesCard : Claim7 := { stood := { row := coreTouchesRow, standIns := [], harness := (true, "a9a64ff890b6f43227daa65d0b0cf81906d97e1f0013136e3aff617ceebe4fd3"), looks := false }, kinds := [], alts := [], laidByText := true, laidKinds := [.data], laidTests := true, laidLooks := .later }
def CoreTouchesCardSaid : Prop := Claim7.holds Tryd.pinned (.plain (OpenSpec.ofChange coreTouchesSpec)) coreTouchesCard

/-- THE SECOND FORM's CARD OF 'cloisterlaw12.CoreSteps'. -/
def coreStepsUptoCard : Claim7 := { stood := { row := coreStepsUptoRow, standIns := [], harness := (true, "a9a64ff890b6f43227daa65d0b0cf81906d97e1f0013136e3aff617ceebe4fd3"), looks := false }, kinds := [], alts := [], laidByText := true, laidKinds := [.data], laidTests := true, laidLooks := .later }
def CoreStepsUptoCardSaid : Prop := Claim7.holds Tryd.pinned (.plain (OpenSpec.upto coreStepsSpec)) coreStepsUptoCard

/-- THE SECOND FORM's CARD OF 'cloisterlaw12.CoreFaults'. -/
def coreFaultsUptoCard : Claim7 := { stood := { row := coreFaultsUptoRow, standIns := [], harness := (true, "a9a64ff890b6f43227daa65d0b0cf81906d97e1f0013136e3aff617ceebe4fd3"), looks := false }, kinds := [], alts := [], laidByText := true, laidKinds := [.data], laidTests := true, laidLooks := .later }
def CoreFaultsUptoCardSaid : Prop := Claim7.holds Tryd.pinned (.plain (OpenSpec.upto coreFaultsSpec)) coreFaultsUptoCard

/-- THE SECOND FORM's CARD OF 'cloisterlaw12.CoreBack'. -/
def coreBackUptoCard : Claim7 := { stood := { row := coreBackUptoRow, standIns := [], harness := (true, "a9a64ff890b6f43227daa65d0b0cf81906d97e1f0013136e3aff617ceebe4fd3"), looks := false }, kinds := [], alts := [], laidByText := true, laidKinds := [.data], laidTests := true, laidLooks := .later }
def CoreBackUptoCardSaid : Prop := Claim7.holds Tryd.pinned (.plain (OpenSpec.upto coreBackSpec)) coreBackUptoCard

/-- THE SECOND FORM's CARD OF 'cloisterlaw12.CoreResets'. -/
def coreResetsUptoCard : Claim7 := { stood := { row := coreResetsUptoRow, standIns := [], harness := (true, "a9a64ff890b6f43227daa65d0b0cf81906d97e1f0013136e3aff617ceebe4fd3"), looks := false }, kinds := [], alts := [], laidByText := true, laidKinds := [.data], laidTests := true, laidLooks := .later }
def CoreResetsUptoCardSaid : Prop := Claim7.holds Tryd.pinned (.plain (OpenSpec.upto coreResetsSpec)) coreResetsUptoCard

/-- THE SECOND FORM's CARD OF 'cloisterlaw12.CoreWords'. -/
def coreWordsUptoCard : Claim7 := { stood := { row := coreWordsUptoRow, standIns := [], harness := (true, "a9a64ff890b6f43227daa65d0b0cf81906d97e1f0013136e3aff617ceebe4fd3"), looks := false }, kinds := [], alts := [], laidByText := true, laidKinds := [.data], laidTests := true, laidLooks := .later }
def CoreWordsUptoCardSaid : Prop := Claim7.holds Tryd.pinned (.plain (OpenSpec.upto coreWordsSpec)) coreWordsUptoCard

/-- THE SECOND FORM's CARD OF 'cloisterlaw12.CoreSums'. -/
def coreSumsUptoCard : Claim7 := { stood := { row := coreSumsUptoRow, standIns := [], harness := (true, "a9a64ff890b6f43227daa65d0b0cf81906d97e1f0013136e3aff617ceebe4fd3"), looks := false }, kinds := [], alts := [], laidByText := true, laidKinds := [.data], laidTests := true, laidLooks := .later }
def CoreSumsUptoCardSaid : Prop := Claim7.holds Tryd.pinned (.plain (OpenSpec.upto coreSumsSpec)) coreSumsUptoCard

/-- THE SECOND FORM's CARD OF 'cloisterlaw12.CoreGoes'. -/
def coreGoesUptoCard : Claim7 := { stood := { row := coreGoesUptoRow, standIns := [], harness := (true, "a9a64ff890b6f43227daa65d0b0cf81906d97e1f0013136e3aff617ceebe4fd3"), looks := false }, kinds := [], alts := [], laidByText := true, laidKinds := [.data], laidTests := true, laidLooks := .later }
def CoreGoesUptoCardSaid : Prop := Claim7.holds Tryd.pinned (.plain (OpenSpec.upto coreGoesSpec)) coreGoesUptoCard

/-- THE SECOND FORM's CARD OF 'cloisterlaw12.CoreTouches'. -/
def coreTouchesUptoCard : Claim7 := { stood := { row := coreTouchesUptoRow, standIns := [], harness := (true, "a9a64ff890b6f43227daa65d0b0cf81906d97e1f0013136e3aff617ceebe4fd3"), looks := false }, kinds := [], alts := [], laidByText := true, laidKinds := [.data], laidTests := true, laidLooks := .later }
def CoreTouchesUptoCardSaid : Prop := Claim7.holds Tryd.pinned (.plain (OpenSpec.upto coreTouchesSpec)) coreTouchesUptoCard
end Rows
end Go.Proofs.YtkljgpepogkgdaaDoor
