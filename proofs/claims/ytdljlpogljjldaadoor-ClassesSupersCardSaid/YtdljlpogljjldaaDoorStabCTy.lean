/- slices.swapRangeCmpFunc and slices.rotateCmpFunc at provenance/api.Type. No conditions but bounds. -/
import Derived.Test.YtdljlpogljjldaaDoorRows
import Derived.Test.YtdljlpogljjldaaDoorStabB
import Derived.BigRegion
import Derived.BigQuiet
import Derived.Deep.LoopGhost
namespace Go.Proofs.YtdljlpogljjldaaDoor
open Go.RowKit Go.Sort Stab
def FmTy (x : V4) : Prop := ∃ (a : Int) (b : ByteArray) (c : Int) (d : Option Addr) (e f : Nat), x = ⟨.int .i64 a, .string b, .int .i64 c, .slice d e f⟩
section
variable {W0 W : World} {blk cap off : Nat} {tl : List Value} {d : Array V4}
set_option maxHeartbeats 4000000 in
theorem swapRangeTy (cv : Value) (a b n : Nat) (hR : Row FmTy W0 W blk 24 tl d) (ho : off = 0) (h1 : a + n ≤ b) (h2 : b + n ≤ d.size) (hs : d.size < 4611686018427387904) :
    Calls Tryd.prog 76 #[.slice (some ⟨blk, off, none⟩) d.size cap, .int .i64 a, .int .i64 b, .int .i64 n, cv] W fun e w' => e = .returned (.tuple #[]) ∧ Row FmTy W0 w' blk 24 tl (swapR a b n d) := by
  have HR := Lib.hid hR
  have HO := Lib.hid ho
  clear hR ho
  go_enter Tryd.func76, Tryd.ntmps76
  go_wp2
  go_loopw [10] (fun i wr => ∃ k : Nat, k ≤ n ∧ i = .int .i64 k ∧ Row FmTy W0 wr blk 24 tl (swapR a b k d)) (fun i _ => n - (intOf i).toNat)
  case atStart => exact ⟨0, Nat.zero_le _, rfl, HR.out⟩
  case round =>
    obtain ⟨k, hk, rfl, hr⟩ := hrel
    by_cases hlt : k < n
    · obtain ⟨hz, _⟩ := swapR_at a b d k (by omega) (by omega)
      obtain ⟨dk, hdk⟩ : ∃ dk, swapR a b k d = dk := ⟨_, rfl⟩
      rw [hdk] at hr hz
      have hi : a + k < dk.size := by omega
      have hj : b + k < dk.size := by omega
      obtain ⟨x, hx⟩ : ∃ x, dk[a + k]! = x := ⟨_, rfl⟩
      obtain ⟨y, hy⟩ : ∃ y, dk[b + k]! = y := ⟨_, rfl⟩
      obtain ⟨xa, xb, xc, xd, xe, xf, rfl⟩ := (hx ▸ hr.one _ hi : FmTy x)
      obtain ⟨ya, yb, yc, yd, ye, yf, rfl⟩ := (hy ▸ hr.one _ hj : FmTy y)
      obtain ⟨p0, p1, p2, p3⟩ := hr.at_ hi hx HO.out
      obtain ⟨q0, q1, q2, q3⟩ := hr.at_ hj hy HO.out
      dsimp only at p0 p1 p2 p3 q0 q1 q2 q3
      have f0 := hr.free (off + (a + k) * 4)
      have f1 := hr.free (off + (a + k) * 4 + 1)
      have f2 := hr.free (off + (a + k) * 4 + 2)
      have f3 := hr.free (off + (a + k) * 4 + 3)
      have g0 := hr.free (off + (b + k) * 4)
      have g1 := hr.free (off + (b + k) * 4 + 1)
      have g2 := hr.free (off + (b + k) * 4 + 2)
      have g3 := hr.free (off + (b + k) * 4 + 3)
      have HN := Lib.hid ((hr.swap hi hj hx hy HO.out).drew)
      dsimp only at HN
      clear hx hy
      have HD := Lib.hid hdk
      have HZ := Lib.hid hz
      have n0 : (k : Int) < (n : Int) := by omega
      have l1 : (a : Int) + (k : Int) < (d.size : Int) := by omega
      have l2 : (b : Int) + (k : Int) < (d.size : Int) := by omega
      clear hr hdk hz hk
      go_wp2_with fail
      go_region
      all_goals go_wp2
      all_goals
        go_roundw
        case rel => exact ⟨k + 1, by omega, by go_num, by have h := HN.out; rw [← HD.out] at h; exact h⟩
        case measure => simp [intOf]; omega
    · have hkn : k = n := by omega
      have HK := Lib.hid hkn
      have n0 : ¬ (k : Int) < (n : Int) := by omega
      clear hkn
      go_wp2
      go_end0
      exact ⟨rfl, by have := HK.out; subst this; exact hr⟩
set_option maxHeartbeats 4000000 in
theorem rotateTy (cv : Value) (a m b : Nat) (hR : Row FmTy W0 W blk 24 tl d) (ho : off = 0) (h1 : a < m) (h2 : m < b) (h3 : b ≤ d.size) (hs : d.size < 4611686018427387904) :
    Calls Tryd.prog 75 #[.slice (some ⟨blk, off, none⟩) d.size cap, .int .i64 a, .int .i64 m, .int .i64 b, cv] W fun e w' => e = .returned (.tuple #[]) ∧ ∃ d', Row FmTy W0 w' blk 24 tl d' ∧ Rot a m b d d' := by
  have HR := Lib.hid hR
  have HO := Lib.hid ho
  have e1 : ((m - a : Nat) : Int) = (m : Int) - (a : Int) := by omega
  have e2 : ((b - m : Nat) : Int) = (b : Int) - (m : Int) := by omega
  have E1 := Lib.hid e1
  have E2 := Lib.hid e2
  clear hR ho e1 e2
  go_enter Tryd.func75, Tryd.ntmps75
  go_wp2
  go_loopw [10, 11] (fun si sj wr => ∃ (i j : Nat) (dk : Array V4), si = .int .i64 i ∧ sj = .int .i64 j ∧ 0 < i ∧ 0 < j ∧ a + i ≤ m ∧ m + j ≤ b ∧ dk.size = d.size ∧ Row FmTy W0 wr blk 24 tl dk ∧ Hid (∀ d1, Rot (m - i) m (m + j) dk d1 → Rot a m b d d1)) (fun si sj _ => (intOf si).toNat + (intOf sj).toNat)
  case atStart => exact ⟨m - a, b - m, d, by rw [E1.out], by rw [E2.out], by omega, by omega, by omega, by omega, rfl, HR.out, fun d1 h => by rw [show m - (m - a) = a by omega, show m + (b - m) = b by omega] at h; exact h⟩
  case round =>
    obtain ⟨i, j, dk, rfl, rfl, hi, hj, hai, hjb, hz, hr, hrot⟩ := hrel
    have HZ := Lib.hid hz
    by_cases hij : i = j
    · subst hij
      have hb : ((i : Int) != (i : Int)) = false := by simp
      have hc := swapRangeTy (cap := cap) cv (m - i) m i hr HO.out (by omega) (by omega) (by omega)
      rw [hz, show ((m - i : Nat) : Int) = (m : Int) - (i : Int) by omega] at hc
      have HC := Lib.hid hc
      have hzz : dk.size = d.size := hz
      have HF := Lib.hid (hrot.out _ (rot_end (d := dk) (a := m - i) (m := m) (b := m + i) (n := i) (by omega) (by omega) (by omega)))
      clear hc hzz hz hr
      go_wp2_with ((go_at_call 76; with_reducible refine (HC.out).mono ?_); rintro e w1 ⟨rfl, hr1⟩)
      go_end0
      exact ⟨rfl, _, hr1, HF.out⟩
    · have hb : ((i : Int) != (j : Int)) = true := by rw [bne_iff_ne]; omega
      by_cases hlt : j < i
      · have hg : (j : Int) < (i : Int) := by omega
        have hc := swapRangeTy (cap := cap) cv (m - i) m j hr HO.out (by omega) (by omega) (by omega)
        rw [hz, show ((m - i : Nat) : Int) = (m : Int) - (i : Int) by omega] at hc
        have HC := Lib.hid hc
        have hzn := (swapR_at (m - i) m dk j (by omega) (by omega)).1
        have HF : Hid (∀ d1, Rot (m - (i - j)) m (m + j) (swapR (m - i) m j dk) d1 → Rot a m b d d1) := fun d1 h => hrot.out d1 (rot_left (n := j) (by omega) rfl (by omega) (by rw [show m - i + j = m - (i - j) by omega]; exact h))
        have HZN := Lib.hid (hzn.trans hz)
        have HG := Lib.hid hij
        clear hc hz hr hzn hij
        go_wp2_with ((go_at_call 76; with_reducible refine (HC.out).mono ?_); rintro e w1 ⟨rfl, hr1⟩)
        go_roundw
        case rel => exact ⟨i - j, j, _, by congr 1; omega, rfl, by omega, hj, by omega, hjb, HZN.out, hr1, HF.out⟩
        case measure => simp [intOf]; omega
      · have hg : ¬ (j : Int) < (i : Int) := by omega
        have hc := swapRangeTy (cap := cap) cv (m - i) (m + j - i) i hr HO.out (by omega) (by omega) (by omega)
        rw [hz, show ((m - i : Nat) : Int) = (m : Int) - (i : Int) by omega, show ((m + j - i : Nat) : Int) = (m : Int) + (j : Int) - (i : Int) by omega] at hc
        have HC := Lib.hid hc
        have hzn := (swapR_at (m - i) (m + j - i) dk i (by omega) (by omega)).1
        have HF : Hid (∀ d1, Rot (m - i) m (m + (j - i)) (swapR (m - i) (m + j - i) i dk) d1 → Rot a m b d d1) := fun d1 h => hrot.out d1 (rot_right (n := i) (by omega) (by omega) (by omega) (by rw [show m + j - i = m + (j - i) by omega] at h ⊢; exact h))
        have HZN := Lib.hid (hzn.trans hz)
        have HG := Lib.hid hij
        have hji : (0 : Int) ≤ (m : Int) + (j : Int) - (i : Int) := by omega
        clear hc hz hr hzn hij
        go_wp2_with ((go_at_call 76; with_reducible refine (HC.out).mono ?_); rintro e w1 ⟨rfl, hr1⟩)
        go_roundw
        case rel => exact ⟨i, j - i, _, rfl, by congr 1; omega, hi, by have := HG.out; omega, hai, by omega, HZN.out, hr1, HF.out⟩
        case measure => simp [intOf]; omega
end
end Go.Proofs.YtdljlpogljjldaaDoor
