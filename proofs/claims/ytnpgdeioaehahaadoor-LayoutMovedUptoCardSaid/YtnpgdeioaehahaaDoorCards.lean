/-
  DERIVED. GIVEN WITH THE SEED: THE CARDS: each row of YtnpgdeioaehahaaDoorRows.lean that lists a variable, with what it lists TIED to the program's text (the seventh form; the later family's looks); each row that meets fmt, with fmt's text TOLD by the authors' own Lean function (tested against real Go, not proved from fmt's source: count such statements apart). THE CARD IS WHAT COUNTS. Prove the row's statement (the work); the ties are given (YtnpgdeioaehahaaDoorTie.lean); close each card by the builder's one call (the guide's Derived/Test/ToyasCard.lean, 'card_holds'). Laid BY PROGRAM, IN A SANDBOX (cutbox-door.mjs). By AI agents, Wed Nov 11 2026. No macro, syntax, notation, axiom, sorry.
-/
import Derived.Test.YtnpgdeioaehahaaDoorRows
import GoSem.ClaimSeven
namespace Go.Proofs.YtnpgdeioaehahaaDoor
namespace Rows

/-- THE TIED CARD OF 'provenancekeep1.LexerPlaces'. -/
def lexerPlacesCard : Claim7 := { stood := { row := lexerPlacesRow, standIns := [], harness := (true, "7614fe964488fc0fe513badf7f2ee24f64a3eb5ea46ff55ddb16952f2bf21a70"), looks := false }, kinds := [], alts := [], laidByText := true, laidKinds := [.data, .listed, .data, .pinned], laidTests := true, laidLooks := .later }
def LexerPlacesCardSaid : Prop := Claim7.holds Tryd.pinned (.plain (OpenSpec.ofChange lexerPlacesSpec)) lexerPlacesCard

/-- THE TIED CARD OF 'provenancekeep1.LayoutBalanced'. -/
def layoutBalancedCard : Claim7 := { stood := { row := layoutBalancedRow, standIns := [], harness := (true, "7614fe964488fc0fe513badf7f2ee24f64a3eb5ea46ff55ddb16952f2bf21a70"), looks := false }, kinds := [], alts := [], laidByText := true, laidKinds := [.data, .pinned], laidTests := true, laidLooks := .later }
def LayoutBalancedCardSaid : Prop := Claim7.holds Tryd.pinned (.plain (OpenSpec.ofChange layoutBalancedSpec)) layoutBalancedCard

/-- THE TIED CARD OF 'provenancekeep1.LayoutMoved'. -/
def layoutMovedCard : Claim7 := { stood := { row := layoutMovedRow, standIns := [], harness := (true, "7614fe964488fc0fe513badf7f2ee24f64a3eb5ea46ff55ddb16952f2bf21a70"), looks := false }, kinds := [], alts := [], laidByText := true, laidKinds := [.data, .pinned], laidTests := true, laidLooks := .later }
def LayoutMovedCardSaid : Prop := Claim7.holds Tryd.pinned (.plain (OpenSpec.ofChange layoutMovedSpec)) layoutMovedCard

/-- THE SECOND FORM's CARD OF 'provenancekeep1.LexerPlaces'. -/
def lexerPlacesUptoCard : Claim7 := { stood := { row := lexerPlacesUptoRow, standIns := [], harness := (true, "7614fe964488fc0fe513badf7f2ee24f64a3eb5ea46ff55ddb16952f2bf21a70"), looks := false }, kinds := [], alts := [], laidByText := true, laidKinds := [.data, .listed, .data, .pinned], laidTests := true, laidLooks := .later }
def LexerPlacesUptoCardSaid : Prop := Claim7.holds Tryd.pinned (.plain (OpenSpec.upto lexerPlacesSpec)) lexerPlacesUptoCard

/-- THE SECOND FORM's CARD OF 'provenancekeep1.LayoutBalanced'. -/
def layoutBalancedUptoCard : Claim7 := { stood := { row := layoutBalancedUptoRow, standIns := [], harness := (true, "7614fe964488fc0fe513badf7f2ee24f64a3eb5ea46ff55ddb16952f2bf21a70"), looks := false }, kinds := [], alts := [], laidByText := true, laidKinds := [.data, .pinned], laidTests := true, laidLooks := .later }
def LayoutBalancedUptoCardSaid : Prop := Claim7.holds Tryd.pinned (.plain (OpenSpec.upto layoutBalancedSpec)) layoutBalancedUptoCard

/-- THE SECOND FORM's CARD OF 'provenancekeep1.LayoutMoved'. -/
def layoutMovedUptoCard : Claim7 := { stood := { row := layoutMovedUptoRow, standIns := [], harness := (true, "7614fe964488fc0fe513badf7f2ee24f64a3eb5ea46ff55ddb16952f2bf21a70"), looks := false }, kinds := [], alts := [], laidByText := true, laidKinds := [.data, .pinned], laidTests := true, laidLooks := .later }
def LayoutMovedUptoCardSaid : Prop := Claim7.holds Tryd.pinned (.plain (OpenSpec.upto layoutMovedSpec)) layoutMovedUptoCard
end Rows
end Go.Proofs.YtnpgdeioaehahaaDoor
