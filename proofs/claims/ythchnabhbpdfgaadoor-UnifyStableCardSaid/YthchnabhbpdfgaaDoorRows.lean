/-
  NARROWER THAN 'FOR EVERY INPUT', by the rows' own cells (each row's printed sentence says how): UnifySymmetric: loops, laid · UnifyStable: loops, laid · UnifyExtends: loops, laid.
  DERIVED. THE GIVEN ROWS OF THIS SEAT. 3 by the template 'for every input the law returns true; each argument reads behind the call as it read before'; 0 by the template 'total and deterministic' (their statements: YthchnabhbpdfgaaDoorTotals.lean).
  GIVEN WITH THE SEED: the statements are not yours to turn. If you find one false, say at which input.
  Laid BY PROGRAM, IN A SANDBOX (cutbox-rows.mjs): the forced cells as the released guide's own fill.sh prints them over the translation 6fddd283b3da6cae… (all of the seat's roots in one cut). By AI agents, Wed Nov 11 2026. No macro, syntax, notation, axiom, sorry.
-/
import Derived.Test.YthchnabhbpdfgaaDoorChecked
import GoSem.Claim
import GoSem.ClaimJoined
import GoSem.ClaimMapViews
import Derived.JoinedTies
import Derived.KernelRfl
namespace Go.Proofs.YthchnabhbpdfgaaDoor
/- THE CELL 'sum', in the pinned program and in every row, IS THE sha256 OF THE DUMP (.gsa) THAT YthchnabhbpdfgaaDoorProg.lean LOADS. Nothing in Lean hashes anything: it is a label: what it is worth is what the hold of that sum in a sandbox is worth. -/
noncomputable def Tryd.pinned : Pinned := { name := "ythchnabhbpdfgaadoor", sum := "6fddd283b3da6caebcfb44da34431a68d930485dd70a2f8d7f41a9a15ec0dc71", checked := Tryd.checked }
namespace Rows
def none {H : Type} : Left H := { results := [], args := [] }

/- WHAT THE LISTED PACKAGE-LEVEL VARIABLES READ AS WHEN THE CALL BEGINS. Each datum BY PROGRAM (the guide's laid-datum.mjs) off the statement by which the dump's own 'gosem.cut.vars' lays the variable. In a bare row this is a premise. The card (YthchnabhbpdfgaaDoorCards.lean) ties it to the program's text. -/
def laid_provenance_unify_sizes {H : Type} : DataW H := .agg [.lit (.int .i64 0), .lit (.int .i64 (-1)), .lit (.int .i64 3), .lit (.int .i64 1), .lit (.int .i64 0), .lit (.int .i64 2)]

/-- 'provenancekeep1.UnifySymmetric': WHATEVER THE INPUT: true; the input reads as it did. -/
def unifySymmetricSpec : ChangeSpec := { name := "unifySymmetric", fn := fun _ => fun
  | [d1, d2] => { results := [.lit (.bool true)], args := [d1, d2] }
  | _ => none }
def unifySymmetricRow : OpenClaim := { program := "ythchnabhbpdfgaadoor", sum := "6fddd283b3da6caebcfb44da34431a68d930485dd70a2f8d7f41a9a15ec0dc71", func := "provenance/provenancekeep1.UnifySymmetric", spec := "unifySymmetric", unfollowed := true, recurses := true, named := ["provenance/unify.sizes"], loops := true, apart := false, laid := [("provenance/unify.sizes", laid_provenance_unify_sizes)] }
def UnifySymmetricSaid : Prop := unifySymmetricRow.holds Tryd.pinned (OpenSpec.ofChange unifySymmetricSpec)

/-- ITS FALSE NEIGHBOUR: 'it returns false'. Refute it at one input. -/
def unifySymmetricWrong : ChangeSpec := { name := "unifySymmetric", fn := fun _ => fun
  | [d1, d2] => { results := [.lit (.bool false)], args := [d1, d2] }
  | _ => none }
def UnifySymmetricWrongFalsely : Prop := unifySymmetricRow.holds Tryd.pinned (OpenSpec.ofChange unifySymmetricWrong)

/-- 'provenancekeep1.UnifyStable': WHATEVER THE INPUT: true; the input reads as it did. -/
def unifyStableSpec : ChangeSpec := { name := "unifyStable", fn := fun _ => fun
  | [d1, d2] => { results := [.lit (.bool true)], args := [d1, d2] }
  | _ => none }
def unifyStableRow : OpenClaim := { program := "ythchnabhbpdfgaadoor", sum := "6fddd283b3da6caebcfb44da34431a68d930485dd70a2f8d7f41a9a15ec0dc71", func := "provenance/provenancekeep1.UnifyStable", spec := "unifyStable", unfollowed := true, recurses := true, named := ["provenance/unify.sizes"], loops := true, apart := false, laid := [("provenance/unify.sizes", laid_provenance_unify_sizes)] }
def UnifyStableSaid : Prop := unifyStableRow.holds Tryd.pinned (OpenSpec.ofChange unifyStableSpec)

/-- ITS FALSE NEIGHBOUR: 'it returns false'. Refute it at one input. -/
def unifyStableWrong : ChangeSpec := { name := "unifyStable", fn := fun _ => fun
  | [d1, d2] => { results := [.lit (.bool false)], args := [d1, d2] }
  | _ => none }
def UnifyStableWrongFalsely : Prop := unifyStableRow.holds Tryd.pinned (OpenSpec.ofChange unifyStableWrong)

/-- 'provenancekeep1.UnifyExtends': WHATEVER THE INPUT: true; the input reads as it did. -/
def unifyExtendsSpec : ChangeSpec := { name := "unifyExtends", fn := fun _ => fun
  | [d1, d2, d3, d4] => { results := [.lit (.bool true)], args := [d1, d2, d3, d4] }
  | _ => none }
def unifyExtendsRow : OpenClaim := { program := "ythchnabhbpdfgaadoor", sum := "6fddd283b3da6caebcfb44da34431a68d930485dd70a2f8d7f41a9a15ec0dc71", func := "provenance/provenancekeep1.UnifyExtends", spec := "unifyExtends", unfollowed := true, recurses := true, named := ["provenance/unify.sizes"], loops := true, apart := false, laid := [("provenance/unify.sizes", laid_provenance_unify_sizes)] }
def UnifyExtendsSaid : Prop := unifyExtendsRow.holds Tryd.pinned (OpenSpec.ofChange unifyExtendsSpec)

/-- ITS FALSE NEIGHBOUR: 'it returns false'. Refute it at one input. -/
def unifyExtendsWrong : ChangeSpec := { name := "unifyExtends", fn := fun _ => fun
  | [d1, d2, d3, d4] => { results := [.lit (.bool false)], args := [d1, d2, d3, d4] }
  | _ => none }
def UnifyExtendsWrongFalsely : Prop := unifyExtendsRow.holds Tryd.pinned (OpenSpec.ofChange unifyExtendsWrong)

/- THE SECOND FORM. 'bulk': how many values and letters a reading holds, each counted each time it is reached (what is shared counts as often as it is met; a slice's spare places count too). A statement '..UptoSaid' is the law's where the arguments, and the package variables that the reading takes, are together of bulk at most 1048576: NARROWER than '..Said'. Prove '..Said' where nothing that the law and all that it calls make is longer than what came in: it says more and counts as full. Else prove '..UptoSaid'. A law counts once. -/
mutual
def uptoBulk {H : Type} : DataW H → Nat
  | .lit (.string bytes) => bytes.length + 1
  | .lit _ => 1
  | .nil => 1
  | .ptr d => uptoBulk d + 1
  | .slice elems spare => uptoBulkAll elems + uptoBulkAll spare + 1
  | .agg parts => uptoBulkAll parts + 1
  | .iface _ d => uptoBulk d + 1
  | .map entries => uptoBulkEntries entries + 1
  | .held _ => 1
def uptoBulkAll {H : Type} : List (DataW H) → Nat
  | [] => 0
  | d :: r => uptoBulk d + uptoBulkAll r
def uptoBulkEntries {H : Type} : List (Lit × DataW H) → Nat
  | [] => 0
  | x :: r => uptoBulkEntry x + uptoBulkEntries r
def uptoBulkEntry {H : Type} : Lit × DataW H → Nat
  | (.string bytes, d) => bytes.length + uptoBulk d + 1
  | (_, d) => uptoBulk d + 1
 end
def uptoSmall : (H : Type) → List (DataW H) → Bool := fun _ ds => decide (uptoBulkAll ds ≤ 1048576)
def OpenSpec.upto (s : _root_.Go.ChangeSpec) : _root_.Go.OpenSpec := { _root_.Go.OpenSpec.ofChange s with cond := some uptoSmall }

/-- 'provenancekeep1.UnifySymmetric', WHERE WHAT IT READS IS OF BULK AT MOST 1048576: true; the input reads as it did. -/
def unifySymmetricUptoRow : OpenClaim := { program := "ythchnabhbpdfgaadoor", sum := "6fddd283b3da6caebcfb44da34431a68d930485dd70a2f8d7f41a9a15ec0dc71", func := "provenance/provenancekeep1.UnifySymmetric", spec := "unifySymmetric", unfollowed := true, recurses := true, named := ["provenance/unify.sizes"], loops := true, apart := false, laid := [("provenance/unify.sizes", laid_provenance_unify_sizes)], narrowed := true }
def UnifySymmetricUptoSaid : Prop := unifySymmetricUptoRow.holds Tryd.pinned (OpenSpec.upto unifySymmetricSpec)

/-- 'provenancekeep1.UnifyStable', WHERE WHAT IT READS IS OF BULK AT MOST 1048576: true; the input reads as it did. -/
def unifyStableUptoRow : OpenClaim := { program := "ythchnabhbpdfgaadoor", sum := "6fddd283b3da6caebcfb44da34431a68d930485dd70a2f8d7f41a9a15ec0dc71", func := "provenance/provenancekeep1.UnifyStable", spec := "unifyStable", unfollowed := true, recurses := true, named := ["provenance/unify.sizes"], loops := true, apart := false, laid := [("provenance/unify.sizes", laid_provenance_unify_sizes)], narrowed := true }
def UnifyStableUptoSaid : Prop := unifyStableUptoRow.holds Tryd.pinned (OpenSpec.upto unifyStableSpec)

/-- 'provenancekeep1.UnifyExtends', WHERE WHAT IT READS IS OF BULK AT MOST 1048576: true; the input reads as it did. -/
def unifyExtendsUptoRow : OpenClaim := { program := "ythchnabhbpdfgaadoor", sum := "6fddd283b3da6caebcfb44da34431a68d930485dd70a2f8d7f41a9a15ec0dc71", func := "provenance/provenancekeep1.UnifyExtends", spec := "unifyExtends", unfollowed := true, recurses := true, named := ["provenance/unify.sizes"], loops := true, apart := false, laid := [("provenance/unify.sizes", laid_provenance_unify_sizes)], narrowed := true }
def UnifyExtendsUptoSaid : Prop := unifyExtendsUptoRow.holds Tryd.pinned (OpenSpec.upto unifyExtendsSpec)

end Rows
end Go.Proofs.YthchnabhbpdfgaaDoor
