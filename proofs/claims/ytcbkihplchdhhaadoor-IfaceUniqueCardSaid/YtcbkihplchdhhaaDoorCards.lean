/-
  DERIVED. GIVEN WITH THE SEED: THE CARDS: each row of YtcbkihplchdhhaaDoorRows.lean that lists a variable, with what it lists TIED to the program's text (the seventh form; the later family's looks); each row that meets fmt, with fmt's text TOLD by the authors' own Lean function (tested against real Go, not proved from fmt's source: count such statements apart). THE CARD IS WHAT COUNTS. Prove the row's statement (the work); the ties are given (YtcbkihplchdhhaaDoorTie.lean); close each card by the builder's one call (the guide's Derived/Test/ToyasCard.lean, 'card_holds'). Laid BY PROGRAM, IN A SANDBOX (cutbox-door.mjs). By AI agents, Wed Nov 11 2026. No macro, syntax, notation, axiom, sorry.
-/
import Derived.Test.YtcbkihplchdhhaaDoorRows
import GoSem.ClaimSeven
namespace Go.Proofs.YtcbkihplchdhhaaDoor
namespace Rows

/-- THE TIED CARD OF 'provenancekeep1.IfaceUnique'. -/
def ifaceUniqueCard : Claim7 := { stood := { row := ifaceUniqueRow, standIns := [], harness := (true, "b0df0db346f9db854877b0d8ea46aee4162cedde53370df92ab4288fe6d9e613"), looks := false }, kinds := [], alts := [], laidByText := true, laidKinds := [.data], laidTests := true, laidLooks := .later }
def IfaceUniqueCardSaid : Prop := Claim7.holds Tryd.pinned (.plain (OpenSpec.ofChange ifaceUniqueSpec)) ifaceUniqueCard

/-- THE SECOND FORM's CARD OF 'provenancekeep1.IfaceUnique'. -/
def ifaceUniqueUptoCard : Claim7 := { stood := { row := ifaceUniqueUptoRow, standIns := [], harness := (true, "b0df0db346f9db854877b0d8ea46aee4162cedde53370df92ab4288fe6d9e613"), looks := false }, kinds := [], alts := [], laidByText := true, laidKinds := [.data], laidTests := true, laidLooks := .later }
def IfaceUniqueUptoCardSaid : Prop := Claim7.holds Tryd.pinned (.plain (OpenSpec.upto ifaceUniqueSpec)) ifaceUniqueUptoCard
end Rows
end Go.Proofs.YtcbkihplchdhhaaDoor
