/-
  DERIVED. GIVEN WITH THE SEED: THE CARDS: each row of YteggjabfgffcfaaDoorRows.lean that lists a variable, with what it lists TIED to the program's text (the seventh form; the later family's looks); each row that meets fmt, with fmt's text TOLD by the authors' own Lean function (tested against real Go, not proved from fmt's source: count such statements apart). THE CARD IS WHAT COUNTS. Prove the row's statement (the work); the ties are given (YteggjabfgffcfaaDoorTie.lean); close each card by the builder's one call (the guide's Derived/Test/ToyasCard.lean, 'card_holds'). Laid BY PROGRAM, IN A SANDBOX (cutbox-door.mjs). By AI agents, Wed Nov 11 2026. No macro, syntax, notation, axiom, sorry.
-/
import Derived.Test.YteggjabfgffcfaaDoorRows
import GoSem.ClaimSeven
namespace Go.Proofs.YteggjabfgffcfaaDoor
namespace Rows

/-- THE TIED CARD OF 'provenancekeep1.SourceBack'. -/
def sourceBackCard : Claim7 := { stood := { row := sourceBackRow, standIns := [], harness := (true, "1f10c315c86607190723b564324b12d5b5bffa44dd791d608351131fa4fc2eae"), looks := false }, kinds := [], alts := [], laidByText := true, laidKinds := [.data, .pinned], laidTests := true, laidLooks := .later }
def SourceBackCardSaid : Prop := Claim7.holds Tryd.pinned (.plain (OpenSpec.ofChange sourceBackSpec)) sourceBackCard

/-- THE TIED CARD OF 'provenancekeep1.SourceLines'. -/
def sourceLinesCard : Claim7 := { stood := { row := sourceLinesRow, standIns := [], harness := (true, "1f10c315c86607190723b564324b12d5b5bffa44dd791d608351131fa4fc2eae"), looks := false }, kinds := [], alts := [], laidByText := true, laidKinds := [.data, .pinned], laidTests := true, laidLooks := .later }
def SourceLinesCardSaid : Prop := Claim7.holds Tryd.pinned (.plain (OpenSpec.ofChange sourceLinesSpec)) sourceLinesCard

/-- THE SECOND FORM's CARD OF 'provenancekeep1.SourceBack'. -/
def sourceBackUptoCard : Claim7 := { stood := { row := sourceBackUptoRow, standIns := [], harness := (true, "1f10c315c86607190723b564324b12d5b5bffa44dd791d608351131fa4fc2eae"), looks := false }, kinds := [], alts := [], laidByText := true, laidKinds := [.data, .pinned], laidTests := true, laidLooks := .later }
def SourceBackUptoCardSaid : Prop := Claim7.holds Tryd.pinned (.plain (OpenSpec.upto sourceBackSpec)) sourceBackUptoCard

/-- THE SECOND FORM's CARD OF 'provenancekeep1.SourceLines'. -/
def sourceLinesUptoCard : Claim7 := { stood := { row := sourceLinesUptoRow, standIns := [], harness := (true, "1f10c315c86607190723b564324b12d5b5bffa44dd791d608351131fa4fc2eae"), looks := false }, kinds := [], alts := [], laidByText := true, laidKinds := [.data, .pinned], laidTests := true, laidLooks := .later }
def SourceLinesUptoCardSaid : Prop := Claim7.holds Tryd.pinned (.plain (OpenSpec.upto sourceLinesSpec)) sourceLinesUptoCard
end Rows
end Go.Proofs.YteggjabfgffcfaaDoor
