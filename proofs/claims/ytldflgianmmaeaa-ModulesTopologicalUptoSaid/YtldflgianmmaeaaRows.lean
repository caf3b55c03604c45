/-
  No cell of these rows narrows 'for every input' (looked for: loops, veiled, ifaces, maps, wideKeys, modest, calm, conditions, laid).
  DERIVED. THE GIVEN ROWS OF THIS SEAT. 2 by the template 'for every input the law returns true; each argument reads behind the call as it read before'; 0 by the template 'total and deterministic' (their statements: YtldflgianmmaeaaTotals.lean).
  GIVEN WITH THE SEED: the statements are not yours to turn. If you find one false, say at which input.
  Laid BY PROGRAM, IN A SANDBOX (cutbox-rows.mjs): the forced cells as the released guide's own fill.sh prints them over the translation 28f2a6eec1e6dc31… (all of the seat's roots in one cut). By AI agents, Wed Nov 11 2026. No macro, syntax, notation, axiom, sorry.
-/
import Derived.Test.YtldflgianmmaeaaChecked
import GoSem.Claim
import GoSem.ClaimJoined
import GoSem.ClaimMapViews
import Derived.JoinedTies
import Derived.KernelRfl
namespace Go.Proofs.Ytldflgianmmaeaa
/- THE CELL 'sum', in the pinned program and in every row, IS THE sha256 OF THE DUMP (.gsa) THAT YtldflgianmmaeaaProg.lean LOADS. Nothing in Lean hashes anything: it is a label: what it is worth is what the hold of that sum in a sandbox is worth. -/
noncomputable def Try.pinned : Pinned := { name := "ytldflgianmmaeaa", sum := "28f2a6eec1e6dc3148f7bebbc91db6ad20e5febad2f202788b3e24bdda342a93", checked := Try.checked }
namespace Rows
def none {H : Type} : Left H := { results := [], args := [] }

/-- 'provenancekeep1.ModulesCycleReal': WHATEVER THE INPUT: true; the input reads as it did. -/
def modulesCycleRealSpec : ChangeSpec := { name := "modulesCycleReal", fn := fun _ => fun
  | [d1, d2] => { results := [.lit (.bool true)], args := [d1, d2] }
  | _ => none }
def modulesCycleRealRow : OpenClaim := { program := "ytldflgianmmaeaa", sum := "28f2a6eec1e6dc3148f7bebbc91db6ad20e5febad2f202788b3e24bdda342a93", func := "provenance/provenancekeep1.ModulesCycleReal", spec := "modulesCycleReal", unfollowed := true, recurses := true, apart := false }
def ModulesCycleRealSaid : Prop := modulesCycleRealRow.holds Try.pinned (OpenSpec.ofChange modulesCycleRealSpec)

/-- ITS FALSE NEIGHBOUR: 'it returns false'. Refute it at one input. -/
def modulesCycleRealWrong : ChangeSpec := { name := "modulesCycleReal", fn := fun _ => fun
  | [d1, d2] => { results := [.lit (.bool false)], args := [d1, d2] }
  | _ => none }
def ModulesCycleRealWrongFalsely : Prop := modulesCycleRealRow.holds Try.pinned (OpenSpec.ofChange modulesCycleRealWrong)

/-- 'provenancekeep1.ModulesTopological': WHATEVER THE INPUT: true; the input reads as it did. -/
def modulesTopologicalSpec : ChangeSpec := { name := "modulesTopological", fn := fun _ => fun
  | [d1, d2] => { results := [.lit (.bool true)], args := [d1, d2] }
  | _ => none }
def modulesTopologicalRow : OpenClaim := { program := "ytldflgianmmaeaa", sum := "28f2a6eec1e6dc3148f7bebbc91db6ad20e5febad2f202788b3e24bdda342a93", func := "provenance/provenancekeep1.ModulesTopological", spec := "modulesTopological", unfollowed := true, recurses := true, apart := false }
def ModulesTopologicalSaid : Prop := modulesTopologicalRow.holds Try.pinned (OpenSpec.ofChange modulesTopologicalSpec)

/-- ITS FALSE NEIGHBOUR: 'it returns false'. Refute it at one input. -/
def modulesTopologicalWrong : ChangeSpec := { name := "modulesTopological", fn := fun _ => fun
  | [d1, d2] => { results := [.lit (.bool false)], args := [d1, d2] }
  | _ => none }
def ModulesTopologicalWrongFalsely : Prop := modulesTopologicalRow.holds Try.pinned (OpenSpec.ofChange modulesTopologicalWrong)

/- THE SECOND FORM. 'bulk': how many values and letters a reading holds, each counted each time it is reached (what is shared counts as often as it is met; a slice's spare places count too). A statement '..UptoSaid' is the law's where the arguments, and the package variables that the reading takes, are together of bulk at most 1048576: NARROWER than '..Said'. Prove '..Said' where nothing that the law and all that it calls make is longer than what came in: it says more and counts as full. Else prove '..UptoSaid'. A law counts once. -/
mutual
def uptoBulk {H : Type} : DataW H → Nat
  | .lit (.string bytes) => bytes.length + 1
  | .lit _ => 1
  | .nil => 1
  | .ptr d => uptoBulk d + 1
  | .slice elems spare => uptoBulkAll elems + uptoBulkAll spare + 1
  | .agg parts => uptoBulkAll parts + 1
  | .iface _ d => uptoBulk d + 1
  | .map entries => uptoBulkEntries entries + 1
  | .held _ => 1
def uptoBulkAll {H : Type} : List (DataW H) → Nat
  | [] => 0
  | d :: r => uptoBulk d + uptoBulkAll r
def uptoBulkEntries {H : Type} : List (Lit × DataW H) → Nat
  | [] => 0
  | x :: r => uptoBulkEntry x + uptoBulkEntries r
def uptoBulkEntry {H : Type} : Lit × DataW H → Nat
  | (.string bytes, d) => bytes.length + uptoBulk d + 1
  | (_, d) => uptoBulk d + 1
 end
def uptoSmall : (H : Type) → List (DataW H) → Bool := fun _ ds => decide (uptoBulkAll ds ≤ 1048576)
def OpenSpec.upto (s : _root_.Go.ChangeSpec) : _root_.Go.OpenSpec := { _root_.Go.OpenSpec.ofChange s with cond := some uptoSmall }

/-- 'provenancekeep1.ModulesCycleReal', WHERE WHAT IT READS IS OF BULK AT MOST 1048576: true; the input reads as it did. -/
def modulesCycleRealUptoRow : OpenClaim := { program := "ytldflgianmmaeaa", sum := "28f2a6eec1e6dc3148f7bebbc91db6ad20e5febad2f202788b3e24bdda342a93", func := "provenance/provenancekeep1.ModulesCycleReal", spec := "modulesCycleReal", unfollowed := true, recurses := true, apart := false, narrowed := true }
def ModulesCycleRealUptoSaid : Prop := modulesCycleRealUptoRow.holds Try.pinned (OpenSpec.upto modulesCycleRealSpec)

/-- 'provenancekeep1.ModulesTopological', WHERE WHAT IT READS IS OF BULK AT MOST 1048576: true; the input reads as it did. -/
def modulesTopologicalUptoRow : OpenClaim := { program := "ytldflgianmmaeaa", sum := "28f2a6eec1e6dc3148f7bebbc91db6ad20e5febad2f202788b3e24bdda342a93", func := "provenance/provenancekeep1.ModulesTopological", spec := "modulesTopological", unfollowed := true, recurses := true, apart := false, narrowed := true }
def ModulesTopologicalUptoSaid : Prop := modulesTopologicalUptoRow.holds Try.pinned (OpenSpec.upto modulesTopologicalSpec)

end Rows
end Go.Proofs.Ytldflgianmmaeaa
