/-
  DERIVED. GIVEN WITH THE SEED: THE CARDS: each row of YtafhmkedblpdlaaDoorRows.lean that lists a variable, with what it lists TIED to the program's text (the seventh form; the later family's looks); each row that meets fmt, with fmt's text TOLD by the authors' own Lean function (tested against real Go, not proved from fmt's source: count such statements apart). THE CARD IS WHAT COUNTS. Prove the row's statement (the work); the ties are given (YtafhmkedblpdlaaDoorTie.lean); close each card by the builder's one call (the guide's Derived/Test/ToyasCard.lean, 'card_holds'). Laid BY PROGRAM, IN A SANDBOX (cutbox-door.mjs). By AI agents, Wed Nov 11 2026. No macro, syntax, notation, axiom, sorry.
-/
import Derived.Test.YtafhmkedblpdlaaDoorRows
import GoSem.ClaimSeven
namespace Go.Proofs.YtafhmkedblpdlaaDoor
namespace Rows

/-- THE TIED CARD OF 'cloisterlaw8.MMUMany'. -/
def mMUManyCard : Claim7 := { stood := { row := mMUManyRow, standIns := [], harness := (true, "16c2248f235c355d43d55e96f5500a97d61d8e8a444f21efe51b2e8743b4d53d"), looks := false }, kinds := [], alts := [], laidByText := true, laidKinds := [.data, .data], laidTests := true, laidLooks := .later }
def MMUManyCardSaid : Prop := Claim7.holds Tryd.pinned (.plain (OpenSpec.ofChange mMUManySpec)) mMUManyCard

/-- THE TIED CARD OF 'cloisterlaw8.MMULong'. -/
def mMULongCard : Claim7 := { stood := { row := mMULongRow, standIns := [], harness := (true, "16c2248f235c355d43d55e96f5500a97d61d8e8a444f21efe51b2e8743b4d53d"), looks := false }, kinds := [], alts := [], laidByText := true, laidKinds := [.data, .data], laidTests := true, laidLooks := .later }
def MMULongCardSaid : Prop := Claim7.holds Tryd.pinned (.plain (OpenSpec.ofChange mMULongSpec)) mMULongCard

/-- THE SECOND FORM's CARD OF 'cloisterlaw8.MMUMany'. -/
def mMUManyUptoCard : Claim7 := { stood := { row := mMUManyUptoRow, standIns := [], harness := (true, "16c2248f235c355d43d55e96f5500a97d61d8e8a444f21efe51b2e8743b4d53d"), looks := false }, kinds := [], alts := [], laidByText := true, laidKinds := [.data, .data], laidTests := true, laidLooks := .later }
def MMUManyUptoCardSaid : Prop := Claim7.holds Tryd.pinned (.plain (OpenSpec.upto mMUManySpec)) mMUManyUptoCard

/-- THE SECOND FORM's CARD OF 'cloisterlaw8.MMULong'. -/
def mMULongUptoCard : Claim7 := { stood := { row := mMULongUptoRow, standIns := [], harness := (true, "16c2248f235c355d43d55e96f5500a97d61d8e8a444f21efe51b2e8743b4d53d"), looks := false }, kinds := [], alts := [], laidByText := true, laidKinds := [.data, .data], laidTests := true, laidLooks := .later }
def MMULongUptoCardSaid : Prop := Claim7.holds Tryd.pinned (.plain (OpenSpec.upto mMULongSpec)) mMULongUptoCard
end Rows
end Go.Proofs.YtafhmkedblpdlaaDoor
