/- A region's condition may be made stronger in the middle of the walk: behind a call that lays new cells. -/
import Derived.Deep.RegionHeld3
namespace Go.Proofs.Ytpeabfbljiaedaa
open Go

theorem wpAnyH_mono {P : Program} {ops : Array Oper} {Q : Exit → Act → World → Prop} {md : Region.Mode} {S S' : World → Prop} (hSS : ∀ w, S' w → S w) :
    ∀ (fuel : Nat) (listed : Array Bool) (a : Act) (w : World), wpAnyH P md ops Q S' fuel listed a w → wpAnyH P md ops Q S fuel listed a w
  | 0, _, _, _, h => h
  | fuel + 1, _, _, _, h => ⟨h.1, fun i hi => wpOp_mono (fun a' w' h' => ⟨hSS _ h'.1, wpAnyH_mono hSS fuel _ a' w' h'.2⟩) (h.2 i hi)⟩

/-- The way back into the region, with a stronger condition from here on. -/
theorem raise {P : Program} {ops : Array Oper} {Q : Exit → Act → World → Prop} {md : Region.Mode} {S S' : World → Prop} {fuel : Nat} {listed : Array Bool} {K : Act → World → Prop}
    (hSS : ∀ w, S' w → S w) (h : Shut (∀ a w, S w → (S w → wpAnyH P md ops Q S fuel listed a w) → K a w)) :
    Shut (∀ a w, S w → (S w → wpAnyH P md ops Q S fuel listed a w) → K a w) = Shut (∀ a w, S' w → (S' w → wpAnyH P md ops Q S' fuel listed a w) → K a w) :=
  propext ⟨fun h a w hS hW => h a w (hSS _ hS) (fun _ => wpAnyH_mono hSS _ _ _ _ (hW hS)), fun _ => h⟩
end Go.Proofs.Ytpeabfbljiaedaa
