/-
  DERIVED. GIVEN WITH THE SEED: THE CARDS: each row of YtdpkemihmhchcaaDoorRows.lean that lists a variable, with what it lists TIED to the program's text (the seventh form; the later family's looks); each row that meets fmt, with fmt's text TOLD by the authors' own Lean function (tested against real Go, not proved from fmt's source: count such statements apart). THE CARD IS WHAT COUNTS. Prove the row's statement (the work); the ties are given (YtdpkemihmhchcaaDoorTie.lean); close each card by the builder's one call (the guide's Derived/Test/ToyasCard.lean, 'card_holds'). Laid BY PROGRAM, IN A SANDBOX (cutbox-door.mjs). By AI agents, Wed Nov 11 2026. No macro, syntax, notation, axiom, sorry.
-/
import Derived.Test.YtdpkemihmhchcaaDoorRows
import GoSem.ClaimSeven
namespace Go.Proofs.YtdpkemihmhchcaaDoor
namespace Rows

/-- THE TIED CARD OF 'provenancekeep1.LexerSpaced'. -/
def lexerSpacedCard : Claim7 := { stood := { row := lexerSpacedRow, standIns := [], harness := (true, "8a65a831e99d2768679c205dc94d09fe305f2c58e30ee2f68af9642787f56e04"), looks := false }, kinds := [], alts := [], laidByText := true, laidKinds := [.data, .pinned], laidTests := true, laidLooks := .later }
def LexerSpacedCardSaid : Prop := Claim7.holds Tryd.pinned (.plain (OpenSpec.ofChange lexerSpacedSpec)) lexerSpacedCard

/-- THE TIED CARD OF 'provenancekeep1.LexerLines'. -/
def lexerLinesCard : Claim7 := { stood := { row := lexerLinesRow, standIns := [], harness := (true, "8a65a831e99d2768679c205dc94d09fe305f2c58e30ee2f68af9642787f56e04"), looks := false }, kinds := [], alts := [], laidByText := true, laidKinds := [.data, .pinned], laidTests := true, laidLooks := .later }
def LexerLinesCardSaid : Prop := Claim7.holds Tryd.pinned (.plain (OpenSpec.ofChange lexerLinesSpec)) lexerLinesCard

/-- THE TIED CARD OF 'provenancekeep1.LexerPlaces'. -/
def lexerPlacesCard : Claim7 := { stood := { row := lexerPlacesRow, standIns := [], harness := (true, "8a65a831e99d2768679c205dc94d09fe305f2c58e30ee2f68af9642787f56e04"), looks := false }, kinds := [], alts := [], laidByText := true, laidKinds := [.data, .listed, .data, .pinned], laidTests := true, laidLooks := .later }
def LexerPlacesCardSaid : Prop := Claim7.holds Tryd.pinned (.plain (OpenSpec.ofChange lexerPlacesSpec)) lexerPlacesCard

/-- THE SECOND FORM's CARD OF 'provenancekeep1.LexerSpaced'. -/
def lexerSpacedUptoCard : Claim7 := { stood := { row := lexerSpacedUptoRow, standIns := [], harness := (true, "8a65a831e99d2768679c205dc94d09fe305f2c58e30ee2f68af9642787f56e04"), looks := false }, kinds := [], alts := [], laidByText := true, laidKinds := [.data, .pinned], laidTests := true, laidLooks := .later }
def LexerSpacedUptoCardSaid : Prop := Claim7.holds Tryd.pinned (.plain (OpenSpec.upto lexerSpacedSpec)) lexerSpacedUptoCard

/-- THE SECOND FORM's CARD OF 'provenancekeep1.LexerLines'. -/
def lexerLinesUptoCard : Claim7 := { stood := { row := lexerLinesUptoRow, standIns := [], harness := (true, "8a65a831e99d2768679c205dc94d09fe305f2c58e30ee2f68af9642787f56e04"), looks := false }, kinds := [], alts := [], laidByText := true, laidKinds := [.data, .pinned], laidTests := true, laidLooks := .later }
def LexerLinesUptoCardSaid : Prop := Claim7.holds Tryd.pinned (.plain (OpenSpec.upto lexerLinesSpec)) lexerLinesUptoCard

/-- THE SECOND FORM's CARD OF 'provenancekeep1.LexerPlaces'. -/
def lexerPlacesUptoCard : Claim7 := { stood := { row := lexerPlacesUptoRow, standIns := [], harness := (true, "8a65a831e99d2768679c205dc94d09fe305f2c58e30ee2f68af9642787f56e04"), looks := false }, kinds := [], alts := [], laidByText := true, laidKinds := [.data, .listed, .data, .pinned], laidTests := true, laidLooks := .later }
def LexerPlacesUptoCardSaid : Prop := Claim7.holds Tryd.pinned (.plain (OpenSpec.upto lexerPlacesSpec)) lexerPlacesUptoCard
end Rows
end Go.Proofs.YtdpkemihmhchcaaDoor
