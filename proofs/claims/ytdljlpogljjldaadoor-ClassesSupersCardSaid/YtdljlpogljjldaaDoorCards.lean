/-
  DERIVED. GIVEN WITH THE SEED: THE CARDS: each row of YtdljlpogljjldaaDoorRows.lean that lists a variable, with what it lists TIED to the program's text (the seventh form; the later family's looks); each row that meets fmt, with fmt's text TOLD by the authors' own Lean function (tested against real Go, not proved from fmt's source: count such statements apart). THE CARD IS WHAT COUNTS. Prove the row's statement (the work); the ties are given (YtdljlpogljjldaaDoorTie.lean); close each card by the builder's one call (the guide's Derived/Test/ToyasCard.lean, 'card_holds'). Laid BY PROGRAM, IN A SANDBOX (cutbox-door.mjs). By AI agents, Wed Nov 11 2026. No macro, syntax, notation, axiom, sorry.
-/
import Derived.Test.YtdljlpogljjldaaDoorRows
import GoSem.ClaimSeven
namespace Go.Proofs.YtdljlpogljjldaaDoor
namespace Rows

/-- THE TIED CARD OF 'provenancekeep1.ClassesSupers'. -/
def classesSupersCard : Claim7 := { stood := { row := classesSupersRow, standIns := [], harness := (true, "8532aab06e93fe61189ec3128fed1eb0fc090b1aab7c835ed3ab5a8269f4c160"), looks := false }, kinds := [], alts := [], laidByText := true, laidKinds := [.data, .data, .data, .data], laidTests := true, laidLooks := .later }
def ClassesSupersCardSaid : Prop := Claim7.holds Tryd.pinned (.plain (OpenSpec.ofChange classesSupersSpec)) classesSupersCard

/-- THE TIED CARD OF 'provenancekeep1.ClassesWeakened'. -/
def classesWeakenedCard : Claim7 := { stood := { row := classesWeakenedRow, standIns := [], harness := (true, "8532aab06e93fe61189ec3128fed1eb0fc090b1aab7c835ed3ab5a8269f4c160"), looks := false }, kinds := [], alts := [], laidByText := true, laidKinds := [.data, .data, .data, .data], laidTests := true, laidLooks := .later }
def ClassesWeakenedCardSaid : Prop := Claim7.holds Tryd.pinned (.plain (OpenSpec.ofChange classesWeakenedSpec)) classesWeakenedCard

/-- THE TIED CARD OF 'provenancekeep1.ClassesForged'. -/
def classesForgedCard : Claim7 := { stood := { row := classesForgedRow, standIns := [], harness := (true, "8532aab06e93fe61189ec3128fed1eb0fc090b1aab7c835ed3ab5a8269f4c160"), looks := false }, kinds := [], alts := [], laidByText := true, laidKinds := [.data, .data, .data, .data], laidTests := true, laidLooks := .later }
def ClassesForgedCardSaid : Prop := Claim7.holds Tryd.pinned (.plain (OpenSpec.ofChange classesForgedSpec)) classesForgedCard

/-- THE TIED CARD OF 'provenancekeep1.ClassesReduced'. -/
def classesReducedCard : Claim7 := { stood := { row := classesReducedRow, standIns := [], harness := (true, "8532aab06e93fe61189ec3128fed1eb0fc090b1aab7c835ed3ab5a8269f4c160"), looks := false }, kinds := [], alts := [], laidByText := true, laidKinds := [.data, .data, .data, .data], laidTests := true, laidLooks := .later }
def ClassesReducedCardSaid : Prop := Claim7.holds Tryd.pinned (.plain (OpenSpec.ofChange classesReducedSpec)) classesReducedCard

/-- THE SECOND FORM's CARD OF 'provenancekeep1.ClassesSupers'. -/
def classesSupersUptoCard : Claim7 := { stood := { row := classesSupersUptoRow, standIns := [], harness := (true, "8532aab06e93fe61189ec3128fed1eb0fc090b1aab7c835ed3ab5a8269f4c160"), looks := false }, kinds := [], alts := [], laidByText := true, laidKinds := [.data, .data, .data, .data], laidTests := true, laidLooks := .later }
def ClassesSupersUptoCardSaid : Prop := Claim7.holds Tryd.pinned (.plain (OpenSpec.upto classesSupersSpec)) classesSupersUptoCard

/-- THE SECOND FORM's CARD OF 'provenancekeep1.ClassesWeakened'. -/
def classesWeakenedUptoCard : Claim7 := { stood := { row := classesWeakenedUptoRow, standIns := [], harness := (true, "8532aab06e93fe61189ec3128fed1eb0fc090b1aab7c835ed3ab5a8269f4c160"), looks := false }, kinds := [], alts := [], laidByText := true, laidKinds := [.data, .data, .data, .data], laidTests := true, laidLooks := .later }
def ClassesWeakenedUptoCardSaid : Prop := Claim7.holds Tryd.pinned (.plain (OpenSpec.upto classesWeakenedSpec)) classesWeakenedUptoCard

/-- THE SECOND FORM's CARD OF 'provenancekeep1.ClassesForged'. -/
def classesForgedUptoCard : Claim7 := { stood := { row := classesForgedUptoRow, standIns := [], harness := (true, "8532aab06e93fe61189ec3128fed1eb0fc090b1aab7c835ed3ab5a8269f4c160"), looks := false }, kinds := [], alts := [], laidByText := true, laidKinds := [.data, .data, .data, .data], laidTests := true, laidLooks := .later }
def ClassesForgedUptoCardSaid : Prop := Claim7.holds Tryd.pinned (.plain (OpenSpec.upto classesForgedSpec)) classesForgedUptoCard

/-- THE SECOND FORM's CARD OF 'provenancekeep1.ClassesReduced'. -/
def classesReducedUptoCard : Claim7 := { stood := { row := classesReducedUptoRow, standIns := [], harness := (true, "8532aab06e93fe61189ec3128fed1eb0fc090b1aab7c835ed3ab5a8269f4c160"), looks := false }, kinds := [], alts := [], laidByText := true, laidKinds := [.data, .data, .data, .data], laidTests := true, laidLooks := .later }
def ClassesReducedUptoCardSaid : Prop := Claim7.holds Tryd.pinned (.plain (OpenSpec.upto classesReducedSpec)) classesReducedUptoCard
end Rows
end Go.Proofs.YtdljlpogljjldaaDoor
