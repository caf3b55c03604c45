/-
  DERIVED. GIVEN WITH THE SEED: THE CARDS: each row of YthchnabhbpdfgaaDoorRows.lean that lists a variable, with what it lists TIED to the program's text (the seventh form; the later family's looks); each row that meets fmt, with fmt's text TOLD by the authors' own Lean function (tested against real Go, not proved from fmt's source: count such statements apart). THE CARD IS WHAT COUNTS. Prove the row's statement (the work); the ties are given (YthchnabhbpdfgaaDoorTie.lean); close each card by the builder's one call (the guide's Derived/Test/ToyasCard.lean, 'card_holds'). Laid BY PROGRAM, IN A SANDBOX (cutbox-door.mjs). By AI agents, Wed Nov 11 2026. No macro, syntax, notation, axiom, sorry.
-/
import Derived.Test.YthchnabhbpdfgaaDoorRows
import GoSem.ClaimSeven
namespace Go.Proofs.YthchnabhbpdfgaaDoor
namespace Rows

/-- THE TIED CARD OF 'provenancekeep1.UnifySymmetric'. -/
def unifySymmetricCard : Claim7 := { stood := { row := unifySymmetricRow, standIns := [], harness := (true, "7eccb30ebd44a574defd866d60122d995e6af5827b0c4422a827c732e4e61b39"), looks := false }, kinds := [], alts := [], laidByText := true, laidKinds := [.data], laidTests := true, laidLooks := .later }
def UnifySymmetricCardSaid : Prop := Claim7.holds Tryd.pinned (.plain (OpenSpec.ofChange unifySymmetricSpec)) unifySymmetricCard

/-- THE TIED CARD OF 'provenancekeep1.UnifyStable'. -/
def unifyStableCard : Claim7 := { stood := { row := unifyStableRow, standIns := [], harness := (true, "7eccb30ebd44a574defd866d60122d995e6af5827b0c4422a827c732e4e61b39"), looks := false }, kinds := [], alts := [], laidByText := true, laidKinds := [.data], laidTests := true, laidLooks := .later }
def UnifyStableCardSaid : Prop := Claim7.holds Tryd.pinned (.plain (OpenSpec.ofChange unifyStableSpec)) unifyStableCard

/-- THE TIED CARD OF 'provenancekeep1.UnifyExtends'. -/
def unifyExtendsCard : Claim7 := { stood := { row := unifyExtendsRow, standIns := [], harness := (true, "7eccb30ebd44a574defd866d60122d995e6af5827b0c4422a827c732e4e61b39"), looks := false }, kinds := [], alts := [], laidByText := true, laidKinds := [.data], laidTests := true, laidLooks := .later }
def UnifyExtendsCardSaid : Prop := Claim7.holds Tryd.pinned (.plain (OpenSpec.ofChange unifyExtendsSpec)) unifyExtendsCard

/-- THE SECOND FORM's CARD OF 'provenancekeep1.UnifySymmetric'. -/
def unifySymmetricUptoCard : Claim7 := { stood := { row := unifySymmetricUptoRow, standIns := [], harness := (true, "7eccb30ebd44a574defd866d60122d995e6af5827b0c4422a827c732e4e61b39"), looks := false }, kinds := [], alts := [], laidByText := true, laidKinds := [.data], laidTests := true, laidLooks := .later }
def UnifySymmetricUptoCardSaid : Prop := Claim7.holds Tryd.pinned (.plain (OpenSpec.upto unifySymmetricSpec)) unifySymmetricUptoCard

/-- THE SECOND FORM's CARD OF 'provenancekeep1.UnifyStable'. -/
def unifyStableUptoCard : Claim7 := { stood := { row := unifyStableUptoRow, standIns := [], harness := (true, "7eccb30ebd44a574defd866d60122d995e6af5827b0c4422a827c732e4e61b39"), looks := false }, kinds := [], alts := [], laidByText := true, laidKinds := [.data], laidTests := true, laidLooks := .later }
def UnifyStableUptoCardSaid : Prop := Claim7.holds Tryd.pinned (.plain (OpenSpec.upto unifyStableSpec)) unifyStableUptoCard

/-- THE SECOND FORM's CARD OF 'provenancekeep1.UnifyExtends'. -/
def unifyExtendsUptoCard : Claim7 := { stood := { row := unifyExtendsUptoRow, standIns := [], harness := (true, "7eccb30ebd44a574defd866d60122d995e6af5827b0c4422a827c732e4e61b39"), looks := false }, kinds := [], alts := [], laidByText := true, laidKinds := [.data], laidTests := true, laidLooks := .later }
def UnifyExtendsUptoCardSaid : Prop := Claim7.holds Tryd.pinned (.plain (OpenSpec.upto unifyExtendsSpec)) unifyExtendsUptoCard
end Rows
end Go.Proofs.YthchnabhbpdfgaaDoor
