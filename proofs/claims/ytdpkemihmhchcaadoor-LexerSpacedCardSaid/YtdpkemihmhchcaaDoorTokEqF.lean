/- slices.EqualFunc at tokens, with the law's own comparison. -/
import Derived.Test.YtdpkemihmhchcaaDoorTokSl
namespace Go.Proofs.YtdpkemihmhchcaaDoor
open Go.RowKit Go.Shelf

set_option maxHeartbeats 1000000 in
theorem cmpTok (x y : Tok) (W : World) (h1 : x.kind = y.kind) (h2 : x.text = y.text) (h3 : x.n = y.n) :
    Calls Tryd.prog 11 #[.agg #[.int .i64 x.kind, .string x.text, .int .i64 x.n, .int .i64 x.line, .int .i64 x.col], .agg #[.int .i64 y.kind, .string y.text, .int .i64 y.n, .int .i64 y.line, .int .i64 y.col]] W
      fun e w' => e = .returned (.bool true) ∧ Below W.heap.size W w' := by
  have e1 : (x.kind == y.kind) = true := by simp [h1]
  have e2 : (x.text.toList == y.text.toList) = true := str_yes h2
  have e3 : (x.n == y.n) = true := by simp [h3]
  clear h1 h2 h3
  go_enter Tryd.func11, Tryd.ntmps11
  go_wp2
  go_ret
  exact ⟨rfl, Below.alloc (Below.alloc (Below.refl _ _) (Nat.le_refl _) _) (by simp) _⟩

set_option maxHeartbeats 1000000 in
theorem tokEqualFunc (l m : List Tok) (v u : Value) (F G : Nat → Prop) (w : World) (hv : Sl w F Tok.d l v) (hu : Sl w G Tok.d m u) (hlen : l.length = m.length)
    (hcore : ∀ (k : Nat) x y, l[k]? = some x → m[k]? = some y → x.kind = y.kind ∧ x.text = y.text ∧ x.n = y.n) :
    Calls Tryd.prog 10 #[v, u, .func (.func 11) #[] #[]] w
      fun e w' => e = .returned (.bool true) ∧ Below w.heap.size w w' := by
  obtain ⟨A, c, rfl, hlc, hcm, _⟩ := hv.form
  obtain ⟨B, c', rfl, hmc, hcm', _⟩ := hu.form
  have hl : l.length ≤ 9223372036854775807 := by unfold maxLen at hcm; omega
  have hm : m.length ≤ 9223372036854775807 := by unfold maxLen at hcm'; omega
  have hd : ((l.length : Int) != (m.length : Int)) = false := by rw [bne_eq_false_iff_eq]; omega
  have hlt0 : l.length ≤ m.length := by omega
  have HCo := Lib.hid hcore
  clear hlen hcore
  go_enter Tryd.func10, Tryd.ntmps10
  go_wp2
  go_loopw [17] (fun i wr => ∃ k : Nat, k ≤ l.length ∧ i = .int .i64 k ∧ Below w.heap.size w wr) (fun i _ => l.length - (intOf i).toNat)
  case atStart => exact ⟨0, Nat.zero_le _, rfl, Below.refl _ _⟩
  case round =>
    obtain ⟨k, hk, rfl, hb⟩ := hrel
    by_cases hlt : k < l.length
    · obtain ⟨ga, offa, rfl, fa, a0, a1, a2, a3, a4, _, _, _, _, _⟩ := Tok.get (hv.later hb) hlt
      obtain ⟨gb, offb, rfl, fb, b0, b1, b2, b3, b4, _, _, _, _, _⟩ := Tok.get (hu.later hb) (show k < m.length by omega)
      have k0 : (0 : Int) ≤ (k : Int) := by omega
      have k1 : (k : Int) < (l.length : Int) := by omega
      have k2 : (k : Int) < (m.length : Int) := by omega
      obtain ⟨q1, q2, q3⟩ := HCo.out k _ _ (List.getElem?_eq_getElem hlt) (List.getElem?_eq_getElem (show k < m.length by omega))
      have HC := Lib.hid (fun (X : World) => cmpTok l[k] (m[k]'(by omega)) X q1 q2 q3)
      have hgb : gb < wr.heap.size := block_lt_of_cell b0
      have hbx : ∀ o, Below wr.heap.size wr (wr.alloc o) := fun o => Below.alloc (Below.refl _ _) (Nat.le_refl _) o
      have b0' : ∀ o, (wr.alloc o).cell? _ = _ := fun o => ((hbx o).cell (p := ⟨gb, _, none⟩) hgb).trans b0
      have b1' : ∀ o, (wr.alloc o).cell? _ = _ := fun o => ((hbx o).cell (p := ⟨gb, _, none⟩) hgb).trans b1
      have b2' : ∀ o, (wr.alloc o).cell? _ = _ := fun o => ((hbx o).cell (p := ⟨gb, _, none⟩) hgb).trans b2
      have b3' : ∀ o, (wr.alloc o).cell? _ = _ := fun o => ((hbx o).cell (p := ⟨gb, _, none⟩) hgb).trans b3
      have b4' : ∀ o, (wr.alloc o).cell? _ = _ := fun o => ((hbx o).cell (p := ⟨gb, _, none⟩) hgb).trans b4
      have hBx := Lib.hid (fun (o o' : Obj) (W2 : World) (hb2 : Below ((wr.alloc o).alloc o').heap.size ((wr.alloc o).alloc o') W2) => (show Below w.heap.size w W2 from by
        have h1 := Below.alloc (Below.alloc hb hb.size o) (by have := hb.size; simp; omega) o'
        exact h1.trans (hb2.mono h1.size)))
      clear q1 q2 q3 hbx b0 b1 b2 b3 b4
      go_wp2_with fail
      refine (HC.out _).mono ?_
      rintro e W2 ⟨rfl, hb2⟩
      go_wp2_with fail
      go_roundw
      case rel => exact ⟨k + 1, by omega, by go_num, hBx.out _ _ _ hb2⟩
      case measure => simp [intOf]; omega
    · have k1 : ¬ (k : Int) < (l.length : Int) := by omega
      go_wp2
      go_ret
      exact ⟨rfl, hb⟩
end Go.Proofs.YtdpkemihmhchcaaDoor
