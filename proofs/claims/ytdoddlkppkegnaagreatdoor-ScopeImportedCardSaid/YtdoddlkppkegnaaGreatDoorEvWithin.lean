/- within as a function that the evaluator does not walk into: its number may be a symbol of which the answer is known. No program in sight but that of 'within'. -/
import Derived.Test.YtdoddlkppkegnaaGreatDoorEvPrim
import Derived.Test.YtdoddlkppkegnaaGreatDoorWithin
namespace Go.Proofs.YtdoddlkppkegnaaGreatDoor.Ev
open Go Go.RowKit
set_option linter.unusedSimpArgs false
set_option linter.unusedVariables false
/-- What is known of symbols: symbol, least, greatest, the number between. -/
noncomputable def knL (l : List (Nat × Int × Int × Int)) (i : Nat) (lo hi : Int) : Option Int :=
  List.rec (motive := fun _ => Option Int) none (fun x _ ih => ifB (Nat.beq x.1 i && (eqI x.2.1 lo && eqI x.2.2.1 hi)) (some x.2.2.2) ih) l
def rangeOk (lo hi : Int) : Bool := decide (-4611686018427387904 ≤ lo) && decide (lo ≤ hi) && decide (hi ≤ 4611686018427387904) && decide (hi - lo < 4611686018427387904)
noncomputable def primWithin (kn : List (Nat × Int × Int × Int)) : BR := ⟨fun _ l K => asCons l fun x l => asCons l fun y l => asCons l fun z l => isEol l (asInt y fun j lo => asInt z fun k hi => ifB (sameK j .i64 && sameK k .i64 && rangeOk lo hi)
  (AV.rec (motive := fun _ => Bool) (fun q n => ifB (sameK q .i64) (frcI (withinI n lo hi) fun r => K (.int .i64 r)) false) (fun _ => false) (fun _ => false) (fun _ _ => false) (fun _ _ _ _ _ => false) (fun _ => false) (fun _ _ _ _ _ => false) (fun _ _ _ => false) (fun _ _ => false) (fun _ _ => false) (fun _ _ _ _ => false) false
    (fun i => ifB (Nat.ble 2000 i) (ifB (Nat.beq (Nat.mod (symM i) (Int.toNat (hi - lo + 1))) 0) (frcI (withinI (symR i) lo hi) fun r => K (.int .i64 r)) false) (ifO (knL kn i lo hi) (fun r => frcI r fun r => K (.int .i64 r)) false)) x) false)⟩
theorem knL_ok {i : Nat} {lo hi r : Int} : ∀ {l : List (Nat × Int × Int × Int)}, knL l i lo hi = some r → (i, lo, hi, r) ∈ l
  | [], h => by cases h
  | x :: l, h => by
    have h' : ifB (Nat.beq x.1 i && (eqI x.2.1 lo && eqI x.2.2.1 hi)) (some x.2.2.2) (knL l i lo hi) = some r := h
    cases hb : (Nat.beq x.1 i && (eqI x.2.1 lo && eqI x.2.2.1 hi)) with
    | true =>
      rw [hb] at h'
      have h2 : x.2.2.2 = r := Option.some.inj h'
      simp only [Bool.and_eq_true] at hb
      obtain ⟨a, b, c, d⟩ := x
      have e1 : a = i := beq_iff.1 hb.1
      have e2 : b = lo := eqI_iff.1 hb.2.1
      have e3 : c = hi := eqI_iff.1 hb.2.2
      have e4 : d = r := h2
      rw [e1, e2, e3, e4]; exact List.mem_cons_self
    | false =>
      rw [hb] at h'
      exact List.mem_cons_of_mem _ (knL_ok h')
section
variable {sy : Nat → Value} {P : Program} {G : Nat}
theorem prim_within {f : FuncId} {kn : List (Nat × Int × Int × Int)} (henter : ∀ (a b c : Value) (W : World), (callFunc f #[a, b, c]).run P W = .ok (.enter f #[a, b, c]) W)
    (hc : ∀ (n lo hi : Int) (w : World), -4611686018427387904 ≤ lo → lo ≤ hi → hi ≤ 4611686018427387904 → hi - lo < 4611686018427387904 →
      Calls P f #[.int .i64 n, .int .i64 lo, .int .i64 hi] w fun e w' => e = .returned (.int .i64 (withinI n lo hi)) ∧ w = w')
    (hkn : ∀ x ∈ kn, ∃ n, sy x.1 = .int .i64 n ∧ withinI n x.2.1 x.2.2.1 = x.2.2.2) (hlt : ∀ x ∈ kn, x.1 < 2000) : Prim1 P sy G f (primWithin kn) := by
  intro N0 W0 l K m h e args nx W hG hst hl
  obtain ⟨x, l1, rfl, h1⟩ := asCons_yes (show asCons l _ = true from h)
  obtain ⟨y, l2, rfl, h2⟩ := asCons_yes h1
  obtain ⟨z, l3, rfl, h3⟩ := asCons_yes h2
  obtain ⟨rfl, h4⟩ := isEol_yes h3
  obtain ⟨j, lo, rfl, h5⟩ := asInt_yes h4
  obtain ⟨k, hi, rfl, h6⟩ := asInt_yes h5
  obtain ⟨h7, h8⟩ := ifB_yes h6
  simp only [Bool.and_eq_true, rangeOk, decide_eq_true_eq] at h7
  obtain ⟨⟨g1, g2⟩, ⟨⟨g3, g4⟩, g5⟩, g6⟩ := h7
  obtain rfl := sameK_yes g1
  obtain rfl := sameK_yes g2
  cases hl with
  | cons hx hl => cases hl with
    | cons hy hl => cases hl with
      | cons hz hl =>
        cases hl; cases hy; cases hz
        have done : ∀ n : Int, K (.int .i64 (withinI n lo hi)) = true → ∃ v v', K v = true ∧ RV sy e v v' ∧ ((callFunc f [Value.int .i64 n, .int .i64 lo, .int .i64 hi].toArray).run P W = .ok (.value v') W ∨ ((callFunc f [Value.int .i64 n, .int .i64 lo, .int .i64 hi].toArray).run P W = .ok (.enter f [Value.int .i64 n, .int .i64 lo, .int .i64 hi].toArray) W ∧ Calls P f [Value.int .i64 n, .int .i64 lo, .int .i64 hi].toArray W fun en W' => en = .returned v' ∧ Below W.heap.size W W')) := fun n hK =>
          ⟨_, _, hK, RV.int _ _, .inr ⟨henter _ _ _ W, (hc n lo hi W g3 g4 g5 g6).mono fun en W' hh => ⟨hh.1, by rw [← hh.2]; exact Below.refl _ _⟩⟩⟩
        cases x with
        | int q n =>
          obtain ⟨h9, h10⟩ := ifB_yes (show ifB (sameK q .i64) (frcI (withinI n lo hi) fun r => K (.int .i64 r)) false = true from h8)
          obtain rfl := sameK_yes h9
          rw [frcI_eq] at h10
          cases hx
          exact done n h10
        | sym i =>
          have h8' : ifB (Nat.ble 2000 i) (ifB (Nat.beq (Nat.mod (symM i) (Int.toNat (hi - lo + 1))) 0) (frcI (withinI (symR i) lo hi) fun r => K (.int .i64 r)) false) (ifO (knL kn i lo hi) (fun r => frcI r fun r => K (.int .i64 r)) false) = true := h8
          cases hx with
          | sym _ hi' hone =>
            have hno : Nat.ble 2000 i = false := by
              cases hb : Nat.ble 2000 i with
              | false => rfl
              | true => exact absurd (ble_iff.1 hb) (by omega)
            rw [hno] at h8'
            obtain ⟨r, h9, h10⟩ := ifO_yes (show ifO (knL kn i lo hi) (fun r => frcI r fun r => K (.int .i64 r)) false = true from h8')
            rw [frcI_eq] at h10
            obtain ⟨n, e1, e2⟩ := hkn _ (knL_ok h9)
            simp only at e1 e2
            rw [e1]
            rw [← e2] at h10
            exact done n h10
          | symc hj hb hm =>
            rename_i n
            rw [show Nat.ble 2000 i = true from ble_iff.2 hj] at h8'
            obtain ⟨h9, h10⟩ := ifB_yes (show ifB (Nat.beq (Nat.mod (symM i) (Int.toNat (hi - lo + 1))) 0) (frcI (withinI (symR i) lo hi) fun r => K (.int .i64 r)) false = true from h8')
            rw [frcI_eq] at h10
            have hsz : ((hi - lo + 1).toNat : Int) = hi - lo + 1 := by omega
            have e1 := rem_cls (n := n) (m := symM i) (b := (hi - lo + 1).toNat) (beq_iff.1 h9)
            rw [hm, hsz] at e1
            have e2 : withinI n lo hi = withinI (symR i) lo hi := by unfold withinI; rw [e1]
            rw [← e2] at h10
            exact done n h10
        | _ => cases h8
end
end Go.Proofs.YtdoddlkppkegnaaGreatDoor.Ev
