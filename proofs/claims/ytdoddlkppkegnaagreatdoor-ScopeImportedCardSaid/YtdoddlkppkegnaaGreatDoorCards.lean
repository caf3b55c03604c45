/-
  DERIVED. GIVEN WITH THE SEED: THE CARDS: each row of YtdoddlkppkegnaaGreatDoorRows.lean that lists a variable, with what it lists TIED to the program's text (the seventh form; the later family's looks); each row that meets fmt, with fmt's text TOLD by the authors' own Lean function (tested against real Go, not proved from fmt's source: count such statements apart). THE CARD IS WHAT COUNTS. Prove the row's statement (the work); the ties are given (YtdoddlkppkegnaaGreatDoorTie.lean); close each card by the builder's one call (the guide's Derived/Test/ToyasCard.lean, 'card_holds'). Laid BY PROGRAM, IN A SANDBOX (cutbox-door.mjs). By AI agents, Wed Nov 11 2026. No macro, syntax, notation, axiom, sorry.
-/
import Derived.Test.YtdoddlkppkegnaaGreatDoorRows
import GoSem.ClaimSeven
namespace Go.Proofs.YtdoddlkppkegnaaGreatDoor
namespace Rows

/-- THE TIED CARD OF 'provenancekeep1.ScopeOperators'. -/
def scopeOperatorsCard : Claim7 := { stood := { row := scopeOperatorsRow, standIns := [], harness := (true, "f64bbae88ebcbb5a88cf91d318870a6a4c0644f0280a12128a7c853dd9324abd"), looks := true }, kinds := [], alts := [], laidByText := true, laidKinds := [.data, .data, .data, .data, .pinned], laidTests := true, laidLooks := .later }
def ScopeOperatorsCardSaid : Prop := Claim7.holds Tryz.pinned (.plain (OpenSpec.ofChange scopeOperatorsSpec)) scopeOperatorsCard

/-- THE TIED CARD OF 'provenancekeep1.ScopeImported'. -/
def scopeImportedCard : Claim7 := { stood := { row := scopeImportedRow, standIns := [], harness := (true, "f64bbae88ebcbb5a88cf91d318870a6a4c0644f0280a12128a7c853dd9324abd"), looks := true }, kinds := [], alts := [], laidByText := true, laidKinds := [.data, .pinned], laidTests := true, laidLooks := .later }
def ScopeImportedCardSaid : Prop := Claim7.holds Tryz.pinned (.plain (OpenSpec.ofChange scopeImportedSpec)) scopeImportedCard

/-- THE TIED CARD OF 'provenancekeep1.ScopeAmbiguous'. -/
def scopeAmbiguousCard : Claim7 := { stood := { row := scopeAmbiguousRow, standIns := [], harness := (true, "f64bbae88ebcbb5a88cf91d318870a6a4c0644f0280a12128a7c853dd9324abd"), looks := true }, kinds := [], alts := [], laidByText := true, laidKinds := [.data, .pinned], laidTests := true, laidLooks := .later }
def ScopeAmbiguousCardSaid : Prop := Claim7.holds Tryz.pinned (.plain (OpenSpec.ofChange scopeAmbiguousSpec)) scopeAmbiguousCard

/-- THE SECOND FORM's CARD OF 'provenancekeep1.ScopeOperators'. -/
def scopeOperatorsUptoCard : Claim7 := { stood := { row := scopeOperatorsUptoRow, standIns := [], harness := (true, "f64bbae88ebcbb5a88cf91d318870a6a4c0644f0280a12128a7c853dd9324abd"), looks := true }, kinds := [], alts := [], laidByText := true, laidKinds := [.data, .data, .data, .data, .pinned], laidTests := true, laidLooks := .later }
def ScopeOperatorsUptoCardSaid : Prop := Claim7.holds Tryz.pinned (.plain (OpenSpec.upto scopeOperatorsSpec)) scopeOperatorsUptoCard

/-- THE SECOND FORM's CARD OF 'provenancekeep1.ScopeImported'. -/
def scopeImportedUptoCard : Claim7 := { stood := { row := scopeImportedUptoRow, standIns := [], harness := (true, "f64bbae88ebcbb5a88cf91d318870a6a4c0644f0280a12128a7c853dd9324abd"), looks := true }, kinds := [], alts := [], laidByText := true, laidKinds := [.data, .pinned], laidTests := true, laidLooks := .later }
def ScopeImportedUptoCardSaid : Prop := Claim7.holds Tryz.pinned (.plain (OpenSpec.upto scopeImportedSpec)) scopeImportedUptoCard

/-- THE SECOND FORM's CARD OF 'provenancekeep1.ScopeAmbiguous'. -/
def scopeAmbiguousUptoCard : Claim7 := { stood := { row := scopeAmbiguousUptoRow, standIns := [], harness := (true, "f64bbae88ebcbb5a88cf91d318870a6a4c0644f0280a12128a7c853dd9324abd"), looks := true }, kinds := [], alts := [], laidByText := true, laidKinds := [.data, .pinned], laidTests := true, laidLooks := .later }
def ScopeAmbiguousUptoCardSaid : Prop := Claim7.holds Tryz.pinned (.plain (OpenSpec.upto scopeAmbiguousSpec)) scopeAmbiguousUptoCard
end Rows
end Go.Proofs.YtdoddlkppkegnaaGreatDoor
