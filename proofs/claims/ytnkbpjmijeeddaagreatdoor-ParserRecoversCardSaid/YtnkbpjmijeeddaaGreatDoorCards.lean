/-
  DERIVED. GIVEN WITH THE SEED: THE CARDS: each row of YtnkbpjmijeeddaaGreatDoorRows.lean that lists a variable, with what it lists TIED to the program's text (the seventh form; the later family's looks); each row that meets fmt, with fmt's text TOLD by the authors' own Lean function (tested against real Go, not proved from fmt's source: count such statements apart). THE CARD IS WHAT COUNTS. Prove the row's statement (the work); the ties are given (YtnkbpjmijeeddaaGreatDoorTie.lean); close each card by the builder's one call (the guide's Derived/Test/ToyasCard.lean, 'card_holds'). Laid BY PROGRAM, IN A SANDBOX (cutbox-door.mjs). By AI agents, Wed Nov 11 2026. No macro, syntax, notation, axiom, sorry.
-/
import Derived.Test.YtnkbpjmijeeddaaGreatDoorRows
import GoSem.ClaimSeven
namespace Go.Proofs.YtnkbpjmijeeddaaGreatDoor
namespace Rows

/-- THE TIED CARD OF 'provenancekeep1.ParserRecovers'. -/
def parserRecoversCard : Claim7 := { stood := { row := parserRecoversRow, standIns := [], harness := (true, "4b6514ccea51827c1b78941f4c1b8a927e7f8bf236d0342f9524823a5c82dabb"), looks := true }, kinds := [], alts := [], laidByText := true, laidKinds := [.data, .pinned], laidTests := true, laidLooks := .later }
def ParserRecoversCardSaid : Prop := Claim7.holds Tryz.pinned (.plain (OpenSpec.ofChange parserRecoversSpec)) parserRecoversCard

/-- THE SECOND FORM's CARD OF 'provenancekeep1.ParserRecovers'. -/
def parserRecoversUptoCard : Claim7 := { stood := { row := parserRecoversUptoRow, standIns := [], harness := (true, "4b6514ccea51827c1b78941f4c1b8a927e7f8bf236d0342f9524823a5c82dabb"), looks := true }, kinds := [], alts := [], laidByText := true, laidKinds := [.data, .pinned], laidTests := true, laidLooks := .later }
def ParserRecoversUptoCardSaid : Prop := Claim7.holds Tryz.pinned (.plain (OpenSpec.upto parserRecoversSpec)) parserRecoversUptoCard
end Rows
end Go.Proofs.YtnkbpjmijeeddaaGreatDoor
