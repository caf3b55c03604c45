/- cmp.Less at strings; slices.IsSorted at a list that is sorted. -/
import Derived.Test.YtlpbkhiaknmjkaaModSort
namespace Go.Proofs.Ytlpbkhiaknmjkaa
open Go.RowKit Go.Shelf Go.Sort

set_option maxHeartbeats 400000 in
theorem strLess (x y : ByteArray) (w : World) (h : ¬ x.data.toList < y.data.toList) :
    Calls Try.prog 14 #[.string x, .string y] w fun e w' => e = .returned (.bool false) ∧ w = w' := by
  have h1 : (x.toList == x.toList) = true := by simp
  have h2 : (y.toList == y.toList) = true := by simp
  go_enter Try.func14, Try.ntmps14
  have h3 : Op.bytesLess x.toList y.toList = false := by rw [bytesLess_eq, ByteArray.toList_eq, ByteArray.toList_eq]; exact decide_eq_false h
  go_wp2
  go_ret
  exact ⟨rfl, rfl⟩

set_option maxHeartbeats 1000000 in
theorem strSorted (l : List ByteArray) (v : Value) (F : Nat → Prop) (w : World) (hv : Sl w F dStr l v) (hp : (l.map (·.data.toList)).Pairwise (· < ·)) :
    Calls Try.prog 7 #[v] w fun e w' => e = .returned (.bool true) ∧ Below w.heap.size w w' := by
  obtain ⟨A, c, rfl, hlc, hcm, _⟩ := hv.form
  have hl : l.length ≤ 9223372036854775807 := by unfold maxLen at hcm; omega
  have hle : ∀ (k : Nat) (h : k + 1 < l.length), ¬ (l[k + 1]).data.toList < (l[k]'(by omega)).data.toList := fun k h hlt => by
    have := List.pairwise_iff_getElem.1 hp k (k + 1) (by simp; omega) (by simpa using h) (by omega)
    simp only [List.getElem_map] at this
    exact List.lt_irrefl _ (List.lt_trans hlt this)
  have HLe := Lib.hid hle
  clear hle hp
  go_enter Try.func7, Try.ntmps7
  go_wp2
  go_loopw [3] (fun i wr => ∃ k : Int, i = .int .i64 k ∧ k < l.length ∧ -1 ≤ k ∧ Below w.heap.size w wr) (fun i _ => (intOf i).toNat)
  case atStart => exact ⟨_, rfl, by omega, by omega, Below.refl _ _⟩
  case round =>
    obtain ⟨k, rfl, hk, hk0, hb⟩ := hrel
    by_cases hpos : 0 < k
    · obtain ⟨j, rfl⟩ : ∃ j : Nat, k = ((j + 1 : Nat) : Int) := ⟨(k - 1).toNat, by omega⟩
      have hj : j + 1 < l.length := by omega
      obtain ⟨g, off, rfl, _, c1, _⟩ := dStr.get (hv.later hb) hj
      obtain ⟨g', off', hgg, _, c0, _⟩ := dStr.get (hv.later hb) (show j < l.length by omega)
      simp only [Option.some.injEq, Addr.mk.injEq, and_true] at hgg
      obtain ⟨rfl, rfl⟩ := hgg
      have HL := Lib.hid (fun (W : World) => strLess l[j + 1] (l[j]'(by omega)) W (HLe.out j hj))
      obtain ⟨x, hx⟩ : ∃ x, l[j + 1] = x := ⟨_, rfl⟩
      obtain ⟨y, hy⟩ : ∃ y, l[j]'(by omega) = y := ⟨_, rfl⟩
      rw [hx] at c1 HL
      rw [hy] at c0 HL
      have k1 : (j : Int) + 1 < (l.length : Int) := by omega
      have k2 : (0 : Int) ≤ (j : Int) := by omega
      have k3 : (j : Int) < (l.length : Int) := by omega
      have k4 : (j : Int) + 1 - 1 = (j : Int) := by omega
      have k5 : (0 : Int) < (j : Int) + 1 := by omega
      clear hx hy
      go_wp2
      go_quiet ((go_at_call 14; refine (HL.out _).mono ?_; rintro e w'' ⟨rfl, rfl⟩; exact ⟨rfl, _, rfl⟩))
      go_wp2
      go_roundw
      case rel => exact ⟨(j : Int), by go_num, by omega, by omega, Below.drewN hb _⟩
      case measure => simp [intOf]
    · have k1 : ¬ (0 : Int) < k := hpos
      go_wp2
      go_ret
      exact ⟨rfl, hb⟩
end Go.Proofs.Ytlpbkhiaknmjkaa
