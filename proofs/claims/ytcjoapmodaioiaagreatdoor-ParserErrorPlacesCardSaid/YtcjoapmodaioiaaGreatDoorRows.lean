/-
  NARROWER THAN 'FOR EVERY INPUT', by the rows' own cells (each row's printed sentence says how): ParserErrorPlaces: laid · PrinterDamaged: laid · ParserComments: laid.
  DERIVED. THE GIVEN ROWS OF THIS SEAT. 3 by the template 'for every input the law returns true; each argument reads behind the call as it read before'; 0 by the template 'total and deterministic' (their statements: YtcjoapmodaioiaaGreatDoorTotals.lean).
  GIVEN WITH THE SEED: the statements are not yours to turn. If you find one false, say at which input.
  Laid BY PROGRAM, IN A SANDBOX (cutbox-rows.mjs): the forced cells as the released guide's own fill.sh prints them over the translation b3e32cff9fe173ff… (all of the seat's roots in one cut). By AI agents, Wed Nov 11 2026. No macro, syntax, notation, axiom, sorry.
-/
import Derived.Test.YtcjoapmodaioiaaGreatDoorChecked
import GoSem.PinnedTables
import GoSem.Claim
import GoSem.ClaimJoined
import GoSem.ClaimMapViews
import Derived.JoinedTies
import Derived.KernelRfl
namespace Go.Proofs.YtcjoapmodaioiaaGreatDoor
/- THE CELL 'sum', in the pinned program and in every row, IS THE sha256 OF THE DUMP (.gsa) THAT YtcjoapmodaioiaaGreatDoorProg.lean LOADS. Nothing in Lean hashes anything: it is a label: what it is worth is what the hold of that sum in a sandbox is worth. -/
noncomputable def Tryz.pinned : Pinned := { name := "ytcjoapmodaioiaagreatdoor", sum := "b3e32cff9fe173ffe98afee6c11ce10181f65e3c3244f8668d29701525f73ddb", checked := Tryz.checked }
namespace Rows
def none {H : Type} : Left H := { results := [], args := [] }

/- WHAT THE LISTED PACKAGE-LEVEL VARIABLES READ AS WHEN THE CALL BEGINS. Each datum BY PROGRAM (the guide's laid-datum.mjs) off the statement by which the dump's own 'gosem.cut.vars' lays the variable. In a bare row this is a premise. The card (YtcjoapmodaioiaaGreatDoorCards.lean) ties it to the program's text. -/
def laid_unicode_utf8_acceptRanges {H : Type} : DataW H := .agg [.agg [.lit (.int .u8 128), .lit (.int .u8 191)], .agg [.lit (.int .u8 160), .lit (.int .u8 191)], .agg [.lit (.int .u8 128), .lit (.int .u8 159)], .agg [.lit (.int .u8 144), .lit (.int .u8 191)], .agg [.lit (.int .u8 128), .lit (.int .u8 143)], .agg [.lit (.int .u8 0), .lit (.int .u8 0)], .agg [.lit (.int .u8 0), .lit (.int .u8 0)], .agg [.lit (.int .u8 0), .lit (.int .u8 0)], .agg [.lit (.int .u8 0), .lit (.int .u8 0)], .agg [.lit (.int .u8 0), .lit (.int .u8 0)], .agg [.lit (.int .u8 0), .lit (.int .u8 0)], .agg [.lit (.int .u8 0), .lit (.int .u8 0)], .agg [.lit (.int .u8 0), .lit (.int .u8 0)], .agg [.lit (.int .u8 0), .lit (.int .u8 0)], .agg [.lit (.int .u8 0), .lit (.int .u8 0)], .agg [.lit (.int .u8 0), .lit (.int .u8 0)]]
/-- One of Go's own tables, pinned by name: the form's constant. -/
def laid_unicode_utf8_first : DataW Unit := Go.Pinned.utf8First

/-- 'provenancekeep1.ParserErrorPlaces': WHATEVER THE INPUT: true; the input reads as it did. -/
def parserErrorPlacesSpec : ChangeSpec := { name := "parserErrorPlaces", fn := fun _ => fun
  | [d] => { results := [.lit (.bool true)], args := [d] }
  | _ => none }
def parserErrorPlacesRow : OpenClaim := { program := "ytcjoapmodaioiaagreatdoor", sum := "b3e32cff9fe173ffe98afee6c11ce10181f65e3c3244f8668d29701525f73ddb", func := "provenance/provenancekeep1.ParserErrorPlaces", spec := "parserErrorPlaces", inPlace := ["internal/bytealg.IndexByteString", "internal/bytealg.IndexString", "internal/bytealg.CountString"], unfollowed := true, recurses := true, named := ["internal/bytealg.MaxLen", "unicode/utf8.first", "unicode/utf8.acceptRanges"], apart := false, laid := [("unicode/utf8.acceptRanges", laid_unicode_utf8_acceptRanges), ("unicode/utf8.first", laid_unicode_utf8_first)] }
def ParserErrorPlacesSaid : Prop := parserErrorPlacesRow.holds Tryz.pinned (OpenSpec.ofChange parserErrorPlacesSpec)

/-- ITS FALSE NEIGHBOUR: 'it returns false'. Refute it at one input. -/
def parserErrorPlacesWrong : ChangeSpec := { name := "parserErrorPlaces", fn := fun _ => fun
  | [d] => { results := [.lit (.bool false)], args := [d] }
  | _ => none }
def ParserErrorPlacesWrongFalsely : Prop := parserErrorPlacesRow.holds Tryz.pinned (OpenSpec.ofChange parserErrorPlacesWrong)

/-- 'provenancekeep1.PrinterDamaged': WHATEVER THE INPUT: true; the input reads as it did. -/
def printerDamagedSpec : ChangeSpec := { name := "printerDamaged", fn := fun _ => fun
  | [d1, d2, d3] => { results := [.lit (.bool true)], args := [d1, d2, d3] }
  | _ => none }
def printerDamagedRow : OpenClaim := { program := "ytcjoapmodaioiaagreatdoor", sum := "b3e32cff9fe173ffe98afee6c11ce10181f65e3c3244f8668d29701525f73ddb", func := "provenance/provenancekeep1.PrinterDamaged", spec := "printerDamaged", inPlace := ["internal/bytealg.IndexByteString", "internal/bytealg.IndexString"], unfollowed := true, recurses := true, named := ["internal/bytealg.MaxLen", "unicode/utf8.first", "unicode/utf8.acceptRanges"], apart := false, laid := [("unicode/utf8.acceptRanges", laid_unicode_utf8_acceptRanges), ("unicode/utf8.first", laid_unicode_utf8_first)] }
def PrinterDamagedSaid : Prop := printerDamagedRow.holds Tryz.pinned (OpenSpec.ofChange printerDamagedSpec)

/-- ITS FALSE NEIGHBOUR: 'it returns false'. Refute it at one input. -/
def printerDamagedWrong : ChangeSpec := { name := "printerDamaged", fn := fun _ => fun
  | [d1, d2, d3] => { results := [.lit (.bool false)], args := [d1, d2, d3] }
  | _ => none }
def PrinterDamagedWrongFalsely : Prop := printerDamagedRow.holds Tryz.pinned (OpenSpec.ofChange printerDamagedWrong)

/-- 'provenancekeep1.ParserComments': WHATEVER THE INPUT: true; the input reads as it did. -/
def parserCommentsSpec : ChangeSpec := { name := "parserComments", fn := fun _ => fun
  | [d1, d2] => { results := [.lit (.bool true)], args := [d1, d2] }
  | _ => none }
def parserCommentsRow : OpenClaim := { program := "ytcjoapmodaioiaagreatdoor", sum := "b3e32cff9fe173ffe98afee6c11ce10181f65e3c3244f8668d29701525f73ddb", func := "provenance/provenancekeep1.ParserComments", spec := "parserComments", inPlace := ["internal/bytealg.IndexByteString", "internal/bytealg.IndexString", "internal/bytealg.CountString", "slices.overlaps[string]", "internal/abi.NoEscape", "internal/bytealg.MakeNoZero"], unfollowed := true, recurses := true, named := ["internal/bytealg.MaxLen", "unicode/utf8.first", "unicode/utf8.acceptRanges"], apart := false, laid := [("unicode/utf8.acceptRanges", laid_unicode_utf8_acceptRanges), ("unicode/utf8.first", laid_unicode_utf8_first)] }
def ParserCommentsSaid : Prop := parserCommentsRow.holds Tryz.pinned (OpenSpec.ofChange parserCommentsSpec)

/-- ITS FALSE NEIGHBOUR: 'it returns false'. Refute it at one input. -/
def parserCommentsWrong : ChangeSpec := { name := "parserComments", fn := fun _ => fun
  | [d1, d2] => { results := [.lit (.bool false)], args := [d1, d2] }
  | _ => none }
def ParserCommentsWrongFalsely : Prop := parserCommentsRow.holds Tryz.pinned (OpenSpec.ofChange parserCommentsWrong)

/- THE SECOND FORM. 'bulk': how many values and letters a reading holds, each counted each time it is reached (what is shared counts as often as it is met; a slice's spare places count too). A statement '..UptoSaid' is the law's where the arguments, and the package variables that the reading takes, are together of bulk at most 1048576: NARROWER than '..Said'. Prove '..Said' where nothing that the law and all that it calls make is longer than what came in: it says more and counts as full. Else prove '..UptoSaid'. A law counts once. -/
mutual
def uptoBulk {H : Type} : DataW H → Nat
  | .lit (.string bytes) => bytes.length + 1
  | .lit _ => 1
  | .nil => 1
  | .ptr d => uptoBulk d + 1
  | .slice elems spare => uptoBulkAll elems + uptoBulkAll spare + 1
  | .agg parts => uptoBulkAll parts + 1
  | .iface _ d => uptoBulk d + 1
  | .map entries => uptoBulkEntries entries + 1
  | .held _ => 1
def uptoBulkAll {H : Type} : List (DataW H) → Nat
  | [] => 0
  | d :: r => uptoBulk d + uptoBulkAll r
def uptoBulkEntries {H : Type} : List (Lit × DataW H) → Nat
  | [] => 0
  | x :: r => uptoBulkEntry x + uptoBulkEntries r
def uptoBulkEntry {H : Type} : Lit × DataW H → Nat
  | (.string bytes, d) => bytes.length + uptoBulk d + 1
  | (_, d) => uptoBulk d + 1
 end
def uptoSmall : (H : Type) → List (DataW H) → Bool := fun _ ds => decide (uptoBulkAll ds ≤ 1048576)
def OpenSpec.upto (s : _root_.Go.ChangeSpec) : _root_.Go.OpenSpec := { _root_.Go.OpenSpec.ofChange s with cond := some uptoSmall }

/-- 'provenancekeep1.ParserErrorPlaces', WHERE WHAT IT READS IS OF BULK AT MOST 1048576: true; the input reads as it did. -/
def parserErrorPlacesUptoRow : OpenClaim := { program := "ytcjoapmodaioiaagreatdoor", sum := "b3e32cff9fe173ffe98afee6c11ce10181f65e3c3244f8668d29701525f73ddb", func := "provenance/provenancekeep1.ParserErrorPlaces", spec := "parserErrorPlaces", inPlace := ["internal/bytealg.IndexByteString", "internal/bytealg.IndexString", "internal/bytealg.CountString"], unfollowed := true, recurses := true, named := ["internal/bytealg.MaxLen", "unicode/utf8.first", "unicode/utf8.acceptRanges"], apart := false, laid := [("unicode/utf8.acceptRanges", laid_unicode_utf8_acceptRanges), ("unicode/utf8.first", laid_unicode_utf8_first)], narrowed := true }
def ParserErrorPlacesUptoSaid : Prop := parserErrorPlacesUptoRow.holds Tryz.pinned (OpenSpec.upto parserErrorPlacesSpec)

/-- 'provenancekeep1.PrinterDamaged', WHERE WHAT IT READS IS OF BULK AT MOST 1048576: true; the input reads as it did. -/
def printerDamagedUptoRow : OpenClaim := { program := "ytcjoapmodaioiaagreatdoor", sum := "b3e32cff9fe173ffe98afee6c11ce10181f65e3c3244f8668d29701525f73ddb", func := "provenance/provenancekeep1.PrinterDamaged", spec := "printerDamaged", inPlace := ["internal/bytealg.IndexByteString", "internal/bytealg.IndexString"], unfollowed := true, recurses := true, named := ["internal/bytealg.MaxLen", "unicode/utf8.first", "unicode/utf8.acceptRanges"], apart := false, laid := [("unicode/utf8.acceptRanges", laid_unicode_utf8_acceptRanges), ("unicode/utf8.first", laid_unicode_utf8_first)], narrowed := true }
def PrinterDamagedUptoSaid : Prop := printerDamagedUptoRow.holds Tryz.pinned (OpenSpec.upto printerDamagedSpec)

/-- 'provenancekeep1.ParserComments', WHERE WHAT IT READS IS OF BULK AT MOST 1048576: true; the input reads as it did. -/
def parserCommentsUptoRow : OpenClaim := { program := "ytcjoapmodaioiaagreatdoor", sum := "b3e32cff9fe173ffe98afee6c11ce10181f65e3c3244f8668d29701525f73ddb", func := "provenance/provenancekeep1.ParserComments", spec := "parserComments", inPlace := ["internal/bytealg.IndexByteString", "internal/bytealg.IndexString", "internal/bytealg.CountString", "slices.overlaps[string]", "internal/abi.NoEscape", "internal/bytealg.MakeNoZero"], unfollowed := true, recurses := true, named := ["internal/bytealg.MaxLen", "unicode/utf8.first", "unicode/utf8.acceptRanges"], apart := false, laid := [("unicode/utf8.acceptRanges", laid_unicode_utf8_acceptRanges), ("unicode/utf8.first", laid_unicode_utf8_first)], narrowed := true }
def ParserCommentsUptoSaid : Prop := parserCommentsUptoRow.holds Tryz.pinned (OpenSpec.upto parserCommentsSpec)

end Rows
end Go.Proofs.YtcjoapmodaioiaaGreatDoor
