/-
  DERIVED. GIVEN WITH THE SEED: THE CARDS: each row of YtjofndhbpglfgaaDoorRows.lean that lists a variable, with what it lists TIED to the program's text (the seventh form; the later family's looks); each row that meets fmt, with fmt's text TOLD by the authors' own Lean function (tested against real Go, not proved from fmt's source: count such statements apart). THE CARD IS WHAT COUNTS. Prove the row's statement (the work); the ties are given (YtjofndhbpglfgaaDoorTie.lean); close each card by the builder's one call (the guide's Derived/Test/ToyasCard.lean, 'card_holds'). Laid BY PROGRAM, IN A SANDBOX (cutbox-door.mjs). By AI agents, Wed Nov 11 2026. No macro, syntax, notation, axiom, sorry.
-/
import Derived.Test.YtjofndhbpglfgaaDoorRows
import GoSem.ClaimSeven
namespace Go.Proofs.YtjofndhbpglfgaaDoor
namespace Rows

/-- THE TIED CARD OF 'provenancekeep1.KindsOnce'. -/
def kindsOnceCard : Claim7 := { stood := { row := kindsOnceRow, standIns := [], harness := (true, "40851e29160a820a68033e3376dc137ac7721d218557d49be6722e42d6bfedee"), looks := false }, kinds := [], alts := [], laidByText := true, laidKinds := [.data], laidTests := true, laidLooks := .later }
def KindsOnceCardSaid : Prop := Claim7.holds Tryd.pinned (.plain (OpenSpec.ofChange kindsOnceSpec)) kindsOnceCard

/-- THE TIED CARD OF 'provenancekeep1.KindsPermuted'. -/
def kindsPermutedCard : Claim7 := { stood := { row := kindsPermutedRow, standIns := [], harness := (true, "40851e29160a820a68033e3376dc137ac7721d218557d49be6722e42d6bfedee"), looks := false }, kinds := [], alts := [], laidByText := true, laidKinds := [.data], laidTests := true, laidLooks := .later }
def KindsPermutedCardSaid : Prop := Claim7.holds Tryd.pinned (.plain (OpenSpec.ofChange kindsPermutedSpec)) kindsPermutedCard

/-- THE TIED CARD OF 'provenancekeep1.UnifyOccurs'. -/
def unifyOccursCard : Claim7 := { stood := { row := unifyOccursRow, standIns := [], harness := (true, "40851e29160a820a68033e3376dc137ac7721d218557d49be6722e42d6bfedee"), looks := false }, kinds := [], alts := [], laidByText := true, laidKinds := [.data], laidTests := true, laidLooks := .later }
def UnifyOccursCardSaid : Prop := Claim7.holds Tryd.pinned (.plain (OpenSpec.ofChange unifyOccursSpec)) unifyOccursCard

/-- THE TIED CARD OF 'provenancekeep1.UnifyNormal'. -/
def unifyNormalCard : Claim7 := { stood := { row := unifyNormalRow, standIns := [], harness := (true, "40851e29160a820a68033e3376dc137ac7721d218557d49be6722e42d6bfedee"), looks := false }, kinds := [], alts := [], laidByText := true, laidKinds := [.data], laidTests := true, laidLooks := .later }
def UnifyNormalCardSaid : Prop := Claim7.holds Tryd.pinned (.plain (OpenSpec.ofChange unifyNormalSpec)) unifyNormalCard

/-- THE TIED CARD OF 'provenancekeep1.UnifySymmetric'. -/
def unifySymmetricCard : Claim7 := { stood := { row := unifySymmetricRow, standIns := [], harness := (true, "40851e29160a820a68033e3376dc137ac7721d218557d49be6722e42d6bfedee"), looks := false }, kinds := [], alts := [], laidByText := true, laidKinds := [.data], laidTests := true, laidLooks := .later }
def UnifySymmetricCardSaid : Prop := Claim7.holds Tryd.pinned (.plain (OpenSpec.ofChange unifySymmetricSpec)) unifySymmetricCard

/-- THE TIED CARD OF 'provenancekeep1.UnifyRows'. -/
def unifyRowsCard : Claim7 := { stood := { row := unifyRowsRow, standIns := [], harness := (true, "40851e29160a820a68033e3376dc137ac7721d218557d49be6722e42d6bfedee"), looks := false }, kinds := [], alts := [], laidByText := true, laidKinds := [.data], laidTests := true, laidLooks := .later }
def UnifyRowsCardSaid : Prop := Claim7.holds Tryd.pinned (.plain (OpenSpec.ofChange unifyRowsSpec)) unifyRowsCard

/-- THE TIED CARD OF 'provenancekeep1.UnifyStable'. -/
def unifyStableCard : Claim7 := { stood := { row := unifyStableRow, standIns := [], harness := (true, "40851e29160a820a68033e3376dc137ac7721d218557d49be6722e42d6bfedee"), looks := false }, kinds := [], alts := [], laidByText := true, laidKinds := [.data], laidTests := true, laidLooks := .later }
def UnifyStableCardSaid : Prop := Claim7.holds Tryd.pinned (.plain (OpenSpec.ofChange unifyStableSpec)) unifyStableCard

/-- THE TIED CARD OF 'provenancekeep1.UnifyExtends'. -/
def unifyExtendsCard : Claim7 := { stood := { row := unifyExtendsRow, standIns := [], harness := (true, "40851e29160a820a68033e3376dc137ac7721d218557d49be6722e42d6bfedee"), looks := false }, kinds := [], alts := [], laidByText := true, laidKinds := [.data], laidTests := true, laidLooks := .later }
def UnifyExtendsCardSaid : Prop := Claim7.holds Tryd.pinned (.plain (OpenSpec.ofChange unifyExtendsSpec)) unifyExtendsCard

/-- THE TIED CARD OF 'provenancekeep1.UnifyInstances'. -/
def unifyInstancesCard : Claim7 := { stood := { row := unifyInstancesRow, standIns := [], harness := (true, "40851e29160a820a68033e3376dc137ac7721d218557d49be6722e42d6bfedee"), looks := false }, kinds := [], alts := [], laidByText := true, laidKinds := [.data], laidTests := true, laidLooks := .later }
def UnifyInstancesCardSaid : Prop := Claim7.holds Tryd.pinned (.plain (OpenSpec.ofChange unifyInstancesSpec)) unifyInstancesCard

/-- THE SECOND FORM's CARD OF 'provenancekeep1.KindsOnce'. -/
def kindsOnceUptoCard : Claim7 := { stood := { row := kindsOnceUptoRow, standIns := [], harness := (true, "40851e29160a820a68033e3376dc137ac7721d218557d49be6722e42d6bfedee"), looks := false }, kinds := [], alts := [], laidByText := true, laidKinds := [.data], laidTests := true, laidLooks := .later }
def KindsOnceUptoCardSaid : Prop := Claim7.holds Tryd.pinned (.plain (OpenSpec.upto kindsOnceSpec)) kindsOnceUptoCard

/-- THE SECOND FORM's CARD OF 'provenancekeep1.KindsPermuted'. -/
def kindsPermutedUptoCard : Claim7 := { stood := { row := kindsPermutedUptoRow, standIns := [], harness := (true, "40851e29160a820a68033e3376dc137ac7721d218557d49be6722e42d6bfedee"), looks := false }, kinds := [], alts := [], laidByText := true, laidKinds := [.data], laidTests := true, laidLooks := .later }
def KindsPermutedUptoCardSaid : Prop := Claim7.holds Tryd.pinned (.plain (OpenSpec.upto kindsPermutedSpec)) kindsPermutedUptoCard

/-- THE SECOND FORM's CARD OF 'provenancekeep1.UnifyOccurs'. -/
def unifyOccursUptoCard : Claim7 := { stood := { row := unifyOccursUptoRow, standIns := [], harness := (true, "40851e29160a820a68033e3376dc137ac7721d218557d49be6722e42d6bfedee"), looks := false }, kinds := [], alts := [], laidByText := true, laidKinds := [.data], laidTests := true, laidLooks := .later }
def UnifyOccursUptoCardSaid : Prop := Claim7.holds Tryd.pinned (.plain (OpenSpec.upto unifyOccursSpec)) unifyOccursUptoCard

/-- THE SECOND FORM's CARD OF 'provenancekeep1.UnifyNormal'. -/
def unifyNormalUptoCard : Claim7 := { stood := { row := unifyNormalUptoRow, standIns := [], harness := (true, "40851e29160a820a68033e3376dc137ac7721d218557d49be6722e42d6bfedee"), looks := false }, kinds := [], alts := [], laidByText := true, laidKinds := [.data], laidTests := true, laidLooks := .later }
def UnifyNormalUptoCardSaid : Prop := Claim7.holds Tryd.pinned (.plain (OpenSpec.upto unifyNormalSpec)) unifyNormalUptoCard

/-- THE SECOND FORM's CARD OF 'provenancekeep1.UnifySymmetric'. -/
def unifySymmetricUptoCard : Claim7 := { stood := { row := unifySymmetricUptoRow, standIns := [], harness := (true, "40851e29160a820a68033e3376dc137ac7721d218557d49be6722e42d6bfedee"), looks := false }, kinds := [], alts := [], laidByText := true, laidKinds := [.data], laidTests := true, laidLooks := .later }
def UnifySymmetricUptoCardSaid : Prop := Claim7.holds Tryd.pinned (.plain (OpenSpec.upto unifySymmetricSpec)) unifySymmetricUptoCard

/-- THE SECOND FORM's CARD OF 'provenancekeep1.UnifyRows'. -/
def unifyRowsUptoCard : Claim7 := { stood := { row := unifyRowsUptoRow, standIns := [], harness := (true, "40851e29160a820a68033e3376dc137ac7721d218557d49be6722e42d6bfedee"), looks := false }, kinds := [], alts := [], laidByText := true, laidKinds := [.data], laidTests := true, laidLooks := .later }
def UnifyRowsUptoCardSaid : Prop := Claim7.holds Tryd.pinned (.plain (OpenSpec.upto unifyRowsSpec)) unifyRowsUptoCard

/-- THE SECOND FORM's CARD OF 'provenancekeep1.UnifyStable'. -/
def unifyStableUptoCard : Claim7 := { stood := { row := unifyStableUptoRow, standIns := [], harness := (true, "40851e29160a820a68033e3376dc137ac7721d218557d49be6722e42d6bfedee"), looks := false }, kinds := [], alts := [], laidByText := true, laidKinds := [.data], laidTests := true, laidLooks := .later }
def UnifyStableUptoCardSaid : Prop := Claim7.holds Tryd.pinned (.plain (OpenSpec.upto unifyStableSpec)) unifyStableUptoCard

/-- THE SECOND FORM's CARD OF 'provenancekeep1.UnifyExtends'. -/
def unifyExtendsUptoCard : Claim7 := { stood := { row := unifyExtendsUptoRow, standIns := [], harness := (true, "40851e29160a820a68033e3376dc137ac7721d218557d49be6722e42d6bfedee"), looks := false }, kinds := [], alts := [], laidByText := true, laidKinds := [.data], laidTests := true, laidLooks := .later }
def UnifyExtendsUptoCardSaid : Prop := Claim7.holds Tryd.pinned (.plain (OpenSpec.upto unifyExtendsSpec)) unifyExtendsUptoCard

/-- THE SECOND FORM's CARD OF 'provenancekeep1.UnifyInstances'. -/
def unifyInstancesUptoCard : Claim7 := { stood := { row := unifyInstancesUptoRow, standIns := [], harness := (true, "40851e29160a820a68033e3376dc137ac7721d218557d49be6722e42d6bfedee"), looks := false }, kinds := [], alts := [], laidByText := true, laidKinds := [.data], laidTests := true, laidLooks := .later }
def UnifyInstancesUptoCardSaid : Prop := Claim7.holds Tryd.pinned (.plain (OpenSpec.upto unifyInstancesSpec)) unifyInstancesUptoCard
end Rows
end Go.Proofs.YtjofndhbpglfgaaDoor
