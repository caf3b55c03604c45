/-
  DERIVED. GIVEN WITH THE SEED: THE CARDS: each row of YtcjoapmodaioiaaGreatDoorRows.lean that lists a variable, with what it lists TIED to the program's text (the seventh form; the later family's looks); each row that meets fmt, with fmt's text TOLD by the authors' own Lean function (tested against real Go, not proved from fmt's source: count such statements apart). THE CARD IS WHAT COUNTS. Prove the row's statement (the work); the ties are given (YtcjoapmodaioiaaGreatDoorTie.lean); close each card by the builder's one call (the guide's Derived/Test/ToyasCard.lean, 'card_holds'). Laid BY PROGRAM, IN A SANDBOX (cutbox-door.mjs). By AI agents, Wed Nov 11 2026. No macro, syntax, notation, axiom, sorry.
-/
import Derived.Test.YtcjoapmodaioiaaGreatDoorRows
import GoSem.ClaimSeven
namespace Go.Proofs.YtcjoapmodaioiaaGreatDoor
namespace Rows

/-- THE TIED CARD OF 'provenancekeep1.ParserErrorPlaces'. -/
def parserErrorPlacesCard : Claim7 := { stood := { row := parserErrorPlacesRow, standIns := [], harness := (true, "5cce322fa7083dd88587362cf0fc85a171dd121af059a7cf2acc417dfb2806dc"), looks := true }, kinds := [], alts := [], laidByText := true, laidKinds := [.data, .pinned], laidTests := true, laidLooks := .later }
def ParserErrorPlacesCardSaid : Prop := Claim7.holds Tryz.pinned (.plain (OpenSpec.ofChange parserErrorPlacesSpec)) parserErrorPlacesCard

/-- THE TIED CARD OF 'provenancekeep1.PrinterDamaged'. -/
def printerDamagedCard : Claim7 := { stood := { row := printerDamagedRow, standIns := [], harness := (true, "5cce322fa7083dd88587362cf0fc85a171dd121af059a7cf2acc417dfb2806dc"), looks := true }, kinds := [], alts := [], laidByText := true, laidKinds := [.data, .pinned], laidTests := true, laidLooks := .later }
def PrinterDamagedCardSaid : Prop := Claim7.holds Tryz.pinned (.plain (OpenSpec.ofChange printerDamagedSpec)) printerDamagedCard

/-- THE TIED CARD OF 'provenancekeep1.ParserComments'. -/
def parserCommentsCard : Claim7 := { stood := { row := parserCommentsRow, standIns := [], harness := (true, "5cce322fa7083dd88587362cf0fc85a171dd121af059a7cf2acc417dfb2806dc"), looks := true }, kinds := [], alts := [], laidByText := true, laidKinds := [.data, .pinned], laidTests := true, laidLooks := .later }
def ParserCommentsCardSaid : Prop := Claim7.holds Tryz.pinned (.plain (OpenSpec.ofChange parserCommentsSpec)) parserCommentsCard

/-- THE SECOND FORM's CARD OF 'provenancekeep1.ParserErrorPlaces'. -/
def parserErrorPlacesUptoCard : Claim7 := { stood := { row := parserErrorPlacesUptoRow, standIns := [], harness := (true, "5cce322fa7083dd88587362cf0fc85a171dd121af059a7cf2acc417dfb2806dc"), looks := true }, kinds := [], alts := [], laidByText := true, laidKinds := [.data, .pinned], laidTests := true, laidLooks := .later }
def ParserErrorPlacesUptoCardSaid : Prop := Claim7.holds Tryz.pinned (.plain (OpenSpec.upto parserErrorPlacesSpec)) parserErrorPlacesUptoCard

/-- THE SECOND FORM's CARD OF 'provenancekeep1.PrinterDamaged'. -/
def printerDamagedUptoCard : Claim7 := { stood := { row := printerDamagedUptoRow, standIns := [], harness := (true, "5cce322fa7083dd88587362cf0fc85a171dd121af059a7cf2acc417dfb2806dc"), looks := true }, kinds := [], alts := [], laidByText := true, laidKinds := [.data, .pinned], laidTests := true, laidLooks := .later }
def PrinterDamagedUptoCardSaid : Prop := Claim7.holds Tryz.pinned (.plain (OpenSpec.upto printerDamagedSpec)) printerDamagedUptoCard

/-- THE SECOND FORM's CARD OF 'provenancekeep1.ParserComments'. -/
def parserCommentsUptoCard : Claim7 := { stood := { row := parserCommentsUptoRow, standIns := [], harness := (true, "5cce322fa7083dd88587362cf0fc85a171dd121af059a7cf2acc417dfb2806dc"), looks := true }, kinds := [], alts := [], laidByText := true, laidKinds := [.data, .pinned], laidTests := true, laidLooks := .later }
def ParserCommentsUptoCardSaid : Prop := Claim7.holds Tryz.pinned (.plain (OpenSpec.upto parserCommentsSpec)) parserCommentsUptoCard
end Rows
end Go.Proofs.YtcjoapmodaioiaaGreatDoor
