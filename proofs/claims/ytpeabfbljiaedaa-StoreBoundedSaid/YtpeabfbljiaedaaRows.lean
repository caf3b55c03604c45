/-
  No cell of these rows narrows 'for every input' (looked for: loops, veiled, ifaces, maps, wideKeys, modest, calm, conditions, laid).
  DERIVED. THE GIVEN ROWS OF THIS SEAT. 8 by the template 'for every input the law returns true; each argument reads behind the call as it read before'; 0 by the template 'total and deterministic' (their statements: YtpeabfbljiaedaaTotals.lean).
  GIVEN WITH THE SEED: the statements are not yours to turn. If you find one false, say at which input.
  Laid BY PROGRAM, IN A SANDBOX (cutbox-rows.mjs): the forced cells as the released guide's own fill.sh prints them over the translation 27d03f23edf7e496… (all of the seat's roots in one cut). By AI agents, Wed Nov 11 2026. No macro, syntax, notation, axiom, sorry.
-/
import Derived.Test.YtpeabfbljiaedaaChecked
import GoSem.Claim
import GoSem.ClaimJoined
import GoSem.ClaimMapViews
import Derived.JoinedTies
import Derived.KernelRfl
namespace Go.Proofs.Ytpeabfbljiaedaa
/- THE CELL 'sum', in the pinned program and in every row, IS THE sha256 OF THE DUMP (.gsa) THAT YtpeabfbljiaedaaProg.lean LOADS. Nothing in Lean hashes anything: it is a label: what it is worth is what the hold of that sum in a sandbox is worth. -/
noncomputable def Try.pinned : Pinned := { name := "ytpeabfbljiaedaa", sum := "27d03f23edf7e4964d80a8f86b80f06e4a8dc02f4148dcec34b9c37cc08c01f3", checked := Try.checked }
namespace Rows
def none {H : Type} : Left H := { results := [], args := [] }

/-- 'provenancekeep1.WordRing': WHATEVER THE INPUT: true; the input reads as it did. -/
def wordRingSpec : ChangeSpec := { name := "wordRing", fn := fun _ => fun
  | [d1, d2, d3] => { results := [.lit (.bool true)], args := [d1, d2, d3] }
  | _ => none }
def wordRingRow : OpenClaim := { program := "ytpeabfbljiaedaa", sum := "27d03f23edf7e4964d80a8f86b80f06e4a8dc02f4148dcec34b9c37cc08c01f3", func := "provenance/provenancekeep1.WordRing", spec := "wordRing", apart := false }
def WordRingSaid : Prop := wordRingRow.holds Try.pinned (OpenSpec.ofChange wordRingSpec)

/-- ITS FALSE NEIGHBOUR: 'it returns false'. Refute it at one input. -/
def wordRingWrong : ChangeSpec := { name := "wordRing", fn := fun _ => fun
  | [d1, d2, d3] => { results := [.lit (.bool false)], args := [d1, d2, d3] }
  | _ => none }
def WordRingWrongFalsely : Prop := wordRingRow.holds Try.pinned (OpenSpec.ofChange wordRingWrong)

/-- 'provenancekeep1.WordPackOrder': WHATEVER THE INPUT: true; the input reads as it did. -/
def wordPackOrderSpec : ChangeSpec := { name := "wordPackOrder", fn := fun _ => fun
  | [d1, d2] => { results := [.lit (.bool true)], args := [d1, d2] }
  | _ => none }
def wordPackOrderRow : OpenClaim := { program := "ytpeabfbljiaedaa", sum := "27d03f23edf7e4964d80a8f86b80f06e4a8dc02f4148dcec34b9c37cc08c01f3", func := "provenance/provenancekeep1.WordPackOrder", spec := "wordPackOrder", apart := false }
def WordPackOrderSaid : Prop := wordPackOrderRow.holds Try.pinned (OpenSpec.ofChange wordPackOrderSpec)

/-- ITS FALSE NEIGHBOUR: 'it returns false'. Refute it at one input. -/
def wordPackOrderWrong : ChangeSpec := { name := "wordPackOrder", fn := fun _ => fun
  | [d1, d2] => { results := [.lit (.bool false)], args := [d1, d2] }
  | _ => none }
def WordPackOrderWrongFalsely : Prop := wordPackOrderRow.holds Try.pinned (OpenSpec.ofChange wordPackOrderWrong)

/-- 'provenancekeep1.WordDivision': WHATEVER THE INPUT: true; the input reads as it did. -/
def wordDivisionSpec : ChangeSpec := { name := "wordDivision", fn := fun _ => fun
  | [d1, d2] => { results := [.lit (.bool true)], args := [d1, d2] }
  | _ => none }
def wordDivisionRow : OpenClaim := { program := "ytpeabfbljiaedaa", sum := "27d03f23edf7e4964d80a8f86b80f06e4a8dc02f4148dcec34b9c37cc08c01f3", func := "provenance/provenancekeep1.WordDivision", spec := "wordDivision", apart := false }
def WordDivisionSaid : Prop := wordDivisionRow.holds Try.pinned (OpenSpec.ofChange wordDivisionSpec)

/-- ITS FALSE NEIGHBOUR: 'it returns false'. Refute it at one input. -/
def wordDivisionWrong : ChangeSpec := { name := "wordDivision", fn := fun _ => fun
  | [d1, d2] => { results := [.lit (.bool false)], args := [d1, d2] }
  | _ => none }
def WordDivisionWrongFalsely : Prop := wordDivisionRow.holds Try.pinned (OpenSpec.ofChange wordDivisionWrong)

/-- 'provenancekeep1.StoreBounded': WHATEVER THE INPUT: true; the input reads as it did. -/
def storeBoundedSpec : ChangeSpec := { name := "storeBounded", fn := fun _ => fun
  | [d1, d2, d3] => { results := [.lit (.bool true)], args := [d1, d2, d3] }
  | _ => none }
def storeBoundedRow : OpenClaim := { program := "ytpeabfbljiaedaa", sum := "27d03f23edf7e4964d80a8f86b80f06e4a8dc02f4148dcec34b9c37cc08c01f3", func := "provenance/provenancekeep1.StoreBounded", spec := "storeBounded", apart := false }
def StoreBoundedSaid : Prop := storeBoundedRow.holds Try.pinned (OpenSpec.ofChange storeBoundedSpec)

/-- ITS FALSE NEIGHBOUR: 'it returns false'. Refute it at one input. -/
def storeBoundedWrong : ChangeSpec := { name := "storeBounded", fn := fun _ => fun
  | [d1, d2, d3] => { results := [.lit (.bool false)], args := [d1, d2, d3] }
  | _ => none }
def StoreBoundedWrongFalsely : Prop := storeBoundedRow.holds Try.pinned (OpenSpec.ofChange storeBoundedWrong)

/-- 'provenancekeep1.FixityLevels': WHATEVER THE INPUT: true; the input reads as it did. -/
def fixityLevelsSpec : ChangeSpec := { name := "fixityLevels", fn := fun _ => fun
  | [d1, d2] => { results := [.lit (.bool true)], args := [d1, d2] }
  | _ => none }
def fixityLevelsRow : OpenClaim := { program := "ytpeabfbljiaedaa", sum := "27d03f23edf7e4964d80a8f86b80f06e4a8dc02f4148dcec34b9c37cc08c01f3", func := "provenance/provenancekeep1.FixityLevels", spec := "fixityLevels", unfollowed := true, recurses := true, apart := false }
def FixityLevelsSaid : Prop := fixityLevelsRow.holds Try.pinned (OpenSpec.ofChange fixityLevelsSpec)

/-- ITS FALSE NEIGHBOUR: 'it returns false'. Refute it at one input. -/
def fixityLevelsWrong : ChangeSpec := { name := "fixityLevels", fn := fun _ => fun
  | [d1, d2] => { results := [.lit (.bool false)], args := [d1, d2] }
  | _ => none }
def FixityLevelsWrongFalsely : Prop := fixityLevelsRow.holds Try.pinned (OpenSpec.ofChange fixityLevelsWrong)

/-- 'provenancekeep1.FixityItems': WHATEVER THE INPUT: true; the input reads as it did. -/
def fixityItemsSpec : ChangeSpec := { name := "fixityItems", fn := fun _ => fun
  | [d1, d2] => { results := [.lit (.bool true)], args := [d1, d2] }
  | _ => none }
def fixityItemsRow : OpenClaim := { program := "ytpeabfbljiaedaa", sum := "27d03f23edf7e4964d80a8f86b80f06e4a8dc02f4148dcec34b9c37cc08c01f3", func := "provenance/provenancekeep1.FixityItems", spec := "fixityItems", unfollowed := true, recurses := true, apart := false }
def FixityItemsSaid : Prop := fixityItemsRow.holds Try.pinned (OpenSpec.ofChange fixityItemsSpec)

/-- ITS FALSE NEIGHBOUR: 'it returns false'. Refute it at one input. -/
def fixityItemsWrong : ChangeSpec := { name := "fixityItems", fn := fun _ => fun
  | [d1, d2] => { results := [.lit (.bool false)], args := [d1, d2] }
  | _ => none }
def FixityItemsWrongFalsely : Prop := fixityItemsRow.holds Try.pinned (OpenSpec.ofChange fixityItemsWrong)

/-- 'provenancekeep1.FixityRenamed': WHATEVER THE INPUT: true; the input reads as it did. -/
def fixityRenamedSpec : ChangeSpec := { name := "fixityRenamed", fn := fun _ => fun
  | [d1, d2, d3] => { results := [.lit (.bool true)], args := [d1, d2, d3] }
  | _ => none }
def fixityRenamedRow : OpenClaim := { program := "ytpeabfbljiaedaa", sum := "27d03f23edf7e4964d80a8f86b80f06e4a8dc02f4148dcec34b9c37cc08c01f3", func := "provenance/provenancekeep1.FixityRenamed", spec := "fixityRenamed", unfollowed := true, recurses := true, apart := false }
def FixityRenamedSaid : Prop := fixityRenamedRow.holds Try.pinned (OpenSpec.ofChange fixityRenamedSpec)

/-- ITS FALSE NEIGHBOUR: 'it returns false'. Refute it at one input. -/
def fixityRenamedWrong : ChangeSpec := { name := "fixityRenamed", fn := fun _ => fun
  | [d1, d2, d3] => { results := [.lit (.bool false)], args := [d1, d2, d3] }
  | _ => none }
def FixityRenamedWrongFalsely : Prop := fixityRenamedRow.holds Try.pinned (OpenSpec.ofChange fixityRenamedWrong)

/-- 'provenancekeep1.ScopeSorted': WHATEVER THE INPUT: true; the input reads as it did. -/
def scopeSortedSpec : ChangeSpec := { name := "scopeSorted", fn := fun _ => fun
  | [d] => { results := [.lit (.bool true)], args := [d] }
  | _ => none }
def scopeSortedRow : OpenClaim := { program := "ytpeabfbljiaedaa", sum := "27d03f23edf7e4964d80a8f86b80f06e4a8dc02f4148dcec34b9c37cc08c01f3", func := "provenance/provenancekeep1.ScopeSorted", spec := "scopeSorted", unfollowed := true, recurses := true, apart := false }
def ScopeSortedSaid : Prop := scopeSortedRow.holds Try.pinned (OpenSpec.ofChange scopeSortedSpec)

/-- ITS FALSE NEIGHBOUR: 'it returns false'. Refute it at one input. -/
def scopeSortedWrong : ChangeSpec := { name := "scopeSorted", fn := fun _ => fun
  | [d] => { results := [.lit (.bool false)], args := [d] }
  | _ => none }
def ScopeSortedWrongFalsely : Prop := scopeSortedRow.holds Try.pinned (OpenSpec.ofChange scopeSortedWrong)

/- THE SECOND FORM. 'bulk': how many values and letters a reading holds, each counted each time it is reached (what is shared counts as often as it is met; a slice's spare places count too). A statement '..UptoSaid' is the law's where the arguments, and the package variables that the reading takes, are together of bulk at most 1048576: NARROWER than '..Said'. Prove '..Said' where nothing that the law and all that it calls make is longer than what came in: it says more and counts as full. Else prove '..UptoSaid'. A law counts once. -/
mutual
def uptoBulk {H : Type} : DataW H → Nat
  | .lit (.string bytes) => bytes.length + 1
  | .lit _ => 1
  | .nil => 1
  | .ptr d => uptoBulk d + 1
  | .slice elems spare => uptoBulkAll elems + uptoBulkAll spare + 1
  | .agg parts => uptoBulkAll parts + 1
  | .iface _ d => uptoBulk d + 1
  | .map entries => uptoBulkEntries entries + 1
  | .held _ => 1
def uptoBulkAll {H : Type} : List (DataW H) → Nat
  | [] => 0
  | d :: r => uptoBulk d + uptoBulkAll r
def uptoBulkEntries {H : Type} : List (Lit × DataW H) → Nat
  | [] => 0
  | x :: r => uptoBulkEntry x + uptoBulkEntries r
def uptoBulkEntry {H : Type} : Lit × DataW H → Nat
  | (.string bytes, d) => bytes.length + uptoBulk d + 1
  | (_, d) => uptoBulk d + 1
 end
def uptoSmall : (H : Type) → List (DataW H) → Bool := fun _ ds => decide (uptoBulkAll ds ≤ 1048576)
def OpenSpec.upto (s : _root_.Go.ChangeSpec) : _root_.Go.OpenSpec := { _root_.Go.OpenSpec.ofChange s with cond := some uptoSmall }

/-- 'provenancekeep1.WordRing', WHERE WHAT IT READS IS OF BULK AT MOST 1048576: true; the input reads as it did. -/
def wordRingUptoRow : OpenClaim := { program := "ytpeabfbljiaedaa", sum := "27d03f23edf7e4964d80a8f86b80f06e4a8dc02f4148dcec34b9c37cc08c01f3", func := "provenance/provenancekeep1.WordRing", spec := "wordRing", apart := false, narrowed := true }
def WordRingUptoSaid : Prop := wordRingUptoRow.holds Try.pinned (OpenSpec.upto wordRingSpec)

/-- 'provenancekeep1.WordPackOrder', WHERE WHAT IT READS IS OF BULK AT MOST 1048576: true; the input reads as it did. -/
def wordPackOrderUptoRow : OpenClaim := { program := "ytpeabfbljiaedaa", sum := "27d03f23edf7e4964d80a8f86b80f06e4a8dc02f4148dcec34b9c37cc08c01f3", func := "provenance/provenancekeep1.WordPackOrder", spec := "wordPackOrder", apart := false, narrowed := true }
def WordPackOrderUptoSaid : Prop := wordPackOrderUptoRow.holds Try.pinned (OpenSpec.upto wordPackOrderSpec)

/-- 'provenancekeep1.WordDivision', WHERE WHAT IT READS IS OF BULK AT MOST 1048576: true; the input reads as it did. -/
def wordDivisionUptoRow : OpenClaim := { program := "ytpeabfbljiaedaa", sum := "27d03f23edf7e4964d80a8f86b80f06e4a8dc02f4148dcec34b9c37cc08c01f3", func := "provenance/provenancekeep1.WordDivision", spec := "wordDivision", apart := false, narrowed := true }
def WordDivisionUptoSaid : Prop := wordDivisionUptoRow.holds Try.pinned (OpenSpec.upto wordDivisionSpec)

/-- 'provenancekeep1.StoreBounded', WHERE WHAT IT READS IS OF BULK AT MOST 1048576: true; the input reads as it did. -/
def storeBoundedUptoRow : OpenClaim := { program := "ytpeabfbljiaedaa", sum := "27d03f23edf7e4964d80a8f86b80f06e4a8dc02f4148dcec34b9c37cc08c01f3", func := "provenance/provenancekeep1.StoreBounded", spec := "storeBounded", apart := false, narrowed := true }
def StoreBoundedUptoSaid : Prop := storeBoundedUptoRow.holds Try.pinned (OpenSpec.upto storeBoundedSpec)

/-- 'provenancekeep1.FixityLevels', WHERE WHAT IT READS IS OF BULK AT MOST 1048576: true; the input reads as it did. -/
def fixityLevelsUptoRow : OpenClaim := { program := "ytpeabfbljiaedaa", sum := "27d03f23edf7e4964d80a8f86b80f06e4a8dc02f4148dcec34b9c37cc08c01f3", func := "provenance/provenancekeep1.FixityLevels", spec := "fixityLevels", unfollowed := true, recurses := true, apart := false, narrowed := true }
def FixityLevelsUptoSaid : Prop := fixityLevelsUptoRow.holds Try.pinned (OpenSpec.upto fixityLevelsSpec)

/-- 'provenancekeep1.FixityItems', WHERE WHAT IT READS IS OF BULK AT MOST 1048576: true; the input reads as it did. -/
def fixityItemsUptoRow : OpenClaim := { program := "ytpeabfbljiaedaa", sum := "27d03f23edf7e4964d80a8f86b80f06e4a8dc02f4148dcec34b9c37cc08c01f3", func := "provenance/provenancekeep1.FixityItems", spec := "fixityItems", unfollowed := true, recurses := true, apart := false, narrowed := true }
def FixityItemsUptoSaid : Prop := fixityItemsUptoRow.holds Try.pinned (OpenSpec.upto fixityItemsSpec)

/-- 'provenancekeep1.FixityRenamed', WHERE WHAT IT READS IS OF BULK AT MOST 1048576: true; the input reads as it did. -/
def fixityRenamedUptoRow : OpenClaim := { program := "ytpeabfbljiaedaa", sum := "27d03f23edf7e4964d80a8f86b80f06e4a8dc02f4148dcec34b9c37cc08c01f3", func := "provenance/provenancekeep1.FixityRenamed", spec := "fixityRenamed", unfollowed := true, recurses := true, apart := false, narrowed := true }
def FixityRenamedUptoSaid : Prop := fixityRenamedUptoRow.holds Try.pinned (OpenSpec.upto fixityRenamedSpec)

/-- 'provenancekeep1.ScopeSorted', WHERE WHAT IT READS IS OF BULK AT MOST 1048576: true; the input reads as it did. -/
def scopeSortedUptoRow : OpenClaim := { program := "ytpeabfbljiaedaa", sum := "27d03f23edf7e4964d80a8f86b80f06e4a8dc02f4148dcec34b9c37cc08c01f3", func := "provenance/provenancekeep1.ScopeSorted", spec := "scopeSorted", unfollowed := true, recurses := true, apart := false, narrowed := true }
def ScopeSortedUptoSaid : Prop := scopeSortedUptoRow.holds Try.pinned (OpenSpec.upto scopeSortedSpec)

end Rows
end Go.Proofs.Ytpeabfbljiaedaa
