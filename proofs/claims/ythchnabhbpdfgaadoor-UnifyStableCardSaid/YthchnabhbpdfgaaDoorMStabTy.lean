/- slices.swapRangeCmpFunc and slices.rotateCmpFunc at provenance/api.Type. No conditions but bounds. slices.insertionSortCmpFunc and slices.symMergeCmpFunc at provenance/api.Type. No conditions but bounds. slices.symMergeCmpFunc at provenance/api.Type: the two short cases. No conditions but bounds. slices.symMergeCmpFunc at provenance/api.Type, whole. No conditions but bounds. slices.stableCmpFunc and slices.SortStableFunc at provenance/api.Type: the row becomes what stable sorting makes of it. No conditions but a bound on the length. -/
import Derived.Test.YthchnabhbpdfgaaDoorRows
import Derived.Test.YthchnabhbpdfgaaDoorMStab
import Derived.BigRegion
import Derived.BigQuiet
import Derived.Deep.LoopGhost
import Derived.Deep.RegionHeld3
import Derived.Deep.CutBlock
import Derived.Deep.DeepCutAuto
import Derived.RegionTactic
section
namespace Go.Proofs.YthchnabhbpdfgaaDoor
open Go.RowKit Go.Sort Stab
def FmTy (x : V4) : Prop := ∃ (a : Int) (b : ByteArray) (c : Int) (d : Option Addr) (e f : Nat), x = ⟨.int .i64 a, .string b, .int .i64 c, .slice d e f⟩
section
variable {W0 W : World} {blk cap off : Nat} {tl : List Value} {d : Array V4}
set_option maxHeartbeats 4000000 in
theorem swapRangeTy (cv : Value) (a b n : Nat) (hR : Row FmTy W0 W blk 24 tl d) (ho : off = 0) (h1 : a + n ≤ b) (h2 : b + n ≤ d.size) (hs : d.size < 4611686018427387904) :
    Calls Tryd.prog 54 #[.slice (some ⟨blk, off, none⟩) d.size cap, .int .i64 a, .int .i64 b, .int .i64 n, cv] W fun e w' => e = .returned (.tuple #[]) ∧ Row FmTy W0 w' blk 24 tl (swapR a b n d) := by
  have HR := Lib.hid hR
  have HO := Lib.hid ho
  clear hR ho
  go_enter Tryd.func54, Tryd.ntmps54
  go_wp2
  go_loopw [10] (fun i wr => ∃ k : Nat, k ≤ n ∧ i = .int .i64 k ∧ Row FmTy W0 wr blk 24 tl (swapR a b k d)) (fun i _ => n - (intOf i).toNat)
  case atStart => exact ⟨0, Nat.zero_le _, rfl, HR.out⟩
  case round =>
    obtain ⟨k, hk, rfl, hr⟩ := hrel
    by_cases hlt : k < n
    · obtain ⟨hz, _⟩ := swapR_at a b d k (by omega) (by omega)
      obtain ⟨dk, hdk⟩ : ∃ dk, swapR a b k d = dk := ⟨_, rfl⟩
      rw [hdk] at hr hz
      have hi : a + k < dk.size := by omega
      have hj : b + k < dk.size := by omega
      obtain ⟨x, hx⟩ : ∃ x, dk[a + k]! = x := ⟨_, rfl⟩
      obtain ⟨y, hy⟩ : ∃ y, dk[b + k]! = y := ⟨_, rfl⟩
      obtain ⟨xa, xb, xc, xd, xe, xf, rfl⟩ := (hx ▸ hr.one _ hi : FmTy x)
      obtain ⟨ya, yb, yc, yd, ye, yf, rfl⟩ := (hy ▸ hr.one _ hj : FmTy y)
      obtain ⟨p0, p1, p2, p3⟩ := hr.at_ hi hx HO.out
      obtain ⟨q0, q1, q2, q3⟩ := hr.at_ hj hy HO.out
      dsimp only at p0 p1 p2 p3 q0 q1 q2 q3
      have f0 := hr.free (off + (a + k) * 4)
      have f1 := hr.free (off + (a + k) * 4 + 1)
      have f2 := hr.free (off + (a + k) * 4 + 2)
      have f3 := hr.free (off + (a + k) * 4 + 3)
      have g0 := hr.free (off + (b + k) * 4)
      have g1 := hr.free (off + (b + k) * 4 + 1)
      have g2 := hr.free (off + (b + k) * 4 + 2)
      have g3 := hr.free (off + (b + k) * 4 + 3)
      have HN := Lib.hid ((hr.swap hi hj hx hy HO.out).drew)
      dsimp only at HN
      clear hx hy
      have HD := Lib.hid hdk
      have HZ := Lib.hid hz
      have n0 : (k : Int) < (n : Int) := by omega
      have l1 : (a : Int) + (k : Int) < (d.size : Int) := by omega
      have l2 : (b : Int) + (k : Int) < (d.size : Int) := by omega
      clear hr hdk hz hk
      go_wp2_with fail
      go_region
      all_goals go_wp2
      all_goals
        go_roundw
        case rel => exact ⟨k + 1, by omega, by go_num, by have h := HN.out; rw [← HD.out] at h; exact h⟩
        case measure => simp [intOf]; omega
    · have hkn : k = n := by omega
      have HK := Lib.hid hkn
      have n0 : ¬ (k : Int) < (n : Int) := by omega
      clear hkn
      go_wp2
      go_end0
      exact ⟨rfl, by have := HK.out; subst this; exact hr⟩
set_option maxHeartbeats 4000000 in
theorem rotateTy (cv : Value) (a m b : Nat) (hR : Row FmTy W0 W blk 24 tl d) (ho : off = 0) (h1 : a < m) (h2 : m < b) (h3 : b ≤ d.size) (hs : d.size < 4611686018427387904) :
    Calls Tryd.prog 52 #[.slice (some ⟨blk, off, none⟩) d.size cap, .int .i64 a, .int .i64 m, .int .i64 b, cv] W fun e w' => e = .returned (.tuple #[]) ∧ ∃ d', Row FmTy W0 w' blk 24 tl d' ∧ Rot a m b d d' := by
  have HR := Lib.hid hR
  have HO := Lib.hid ho
  have e1 : ((m - a : Nat) : Int) = (m : Int) - (a : Int) := by omega
  have e2 : ((b - m : Nat) : Int) = (b : Int) - (m : Int) := by omega
  have E1 := Lib.hid e1
  have E2 := Lib.hid e2
  clear hR ho e1 e2
  go_enter Tryd.func52, Tryd.ntmps52
  go_wp2
  go_loopw [10, 11] (fun si sj wr => ∃ (i j : Nat) (dk : Array V4), si = .int .i64 i ∧ sj = .int .i64 j ∧ 0 < i ∧ 0 < j ∧ a + i ≤ m ∧ m + j ≤ b ∧ dk.size = d.size ∧ Row FmTy W0 wr blk 24 tl dk ∧ Hid (∀ d1, Rot (m - i) m (m + j) dk d1 → Rot a m b d d1)) (fun si sj _ => (intOf si).toNat + (intOf sj).toNat)
  case atStart => exact ⟨m - a, b - m, d, by rw [E1.out], by rw [E2.out], by omega, by omega, by omega, by omega, rfl, HR.out, fun d1 h => by rw [show m - (m - a) = a by omega, show m + (b - m) = b by omega] at h; exact h⟩
  case round =>
    obtain ⟨i, j, dk, rfl, rfl, hi, hj, hai, hjb, hz, hr, hrot⟩ := hrel
    have HZ := Lib.hid hz
    by_cases hij : i = j
    · subst hij
      have hb : ((i : Int) != (i : Int)) = false := by simp
      have hc := swapRangeTy (cap := cap) cv (m - i) m i hr HO.out (by omega) (by omega) (by omega)
      rw [hz, show ((m - i : Nat) : Int) = (m : Int) - (i : Int) by omega] at hc
      have HC := Lib.hid hc
      have hzz : dk.size = d.size := hz
      have HF := Lib.hid (hrot.out _ (rot_end (d := dk) (a := m - i) (m := m) (b := m + i) (n := i) (by omega) (by omega) (by omega)))
      clear hc hzz hz hr
      go_wp2_with ((go_at_call 54; with_reducible refine (HC.out).mono ?_); rintro e w1 ⟨rfl, hr1⟩)
      go_end0
      exact ⟨rfl, _, hr1, HF.out⟩
    · have hb : ((i : Int) != (j : Int)) = true := by rw [bne_iff_ne]; omega
      by_cases hlt : j < i
      · have hg : (j : Int) < (i : Int) := by omega
        have hc := swapRangeTy (cap := cap) cv (m - i) m j hr HO.out (by omega) (by omega) (by omega)
        rw [hz, show ((m - i : Nat) : Int) = (m : Int) - (i : Int) by omega] at hc
        have HC := Lib.hid hc
        have hzn := (swapR_at (m - i) m dk j (by omega) (by omega)).1
        have HF : Hid (∀ d1, Rot (m - (i - j)) m (m + j) (swapR (m - i) m j dk) d1 → Rot a m b d d1) := fun d1 h => hrot.out d1 (rot_left (n := j) (by omega) rfl (by omega) (by rw [show m - i + j = m - (i - j) by omega]; exact h))
        have HZN := Lib.hid (hzn.trans hz)
        have HG := Lib.hid hij
        clear hc hz hr hzn hij
        go_wp2_with ((go_at_call 54; with_reducible refine (HC.out).mono ?_); rintro e w1 ⟨rfl, hr1⟩)
        go_roundw
        case rel => exact ⟨i - j, j, _, by congr 1; omega, rfl, by omega, hj, by omega, hjb, HZN.out, hr1, HF.out⟩
        case measure => simp [intOf]; omega
      · have hg : ¬ (j : Int) < (i : Int) := by omega
        have hc := swapRangeTy (cap := cap) cv (m - i) (m + j - i) i hr HO.out (by omega) (by omega) (by omega)
        rw [hz, show ((m - i : Nat) : Int) = (m : Int) - (i : Int) by omega, show ((m + j - i : Nat) : Int) = (m : Int) + (j : Int) - (i : Int) by omega] at hc
        have HC := Lib.hid hc
        have hzn := (swapR_at (m - i) (m + j - i) dk i (by omega) (by omega)).1
        have HF : Hid (∀ d1, Rot (m - i) m (m + (j - i)) (swapR (m - i) (m + j - i) i dk) d1 → Rot a m b d d1) := fun d1 h => hrot.out d1 (rot_right (n := i) (by omega) (by omega) (by omega) (by rw [show m + j - i = m + (j - i) by omega] at h ⊢; exact h))
        have HZN := Lib.hid (hzn.trans hz)
        have HG := Lib.hid hij
        have hji : (0 : Int) ≤ (m : Int) + (j : Int) - (i : Int) := by omega
        clear hc hz hr hzn hij
        go_wp2_with ((go_at_call 54; with_reducible refine (HC.out).mono ?_); rintro e w1 ⟨rfl, hr1⟩)
        go_roundw
        case rel => exact ⟨i, j - i, _, rfl, by congr 1; omega, hi, by have := HG.out; omega, hai, by omega, HZN.out, hr1, HF.out⟩
        case measure => simp [intOf]; omega
end
end Go.Proofs.YthchnabhbpdfgaaDoor
end

section
namespace Go.Proofs.YthchnabhbpdfgaaDoor
open Go.RowKit Go.Sort Stab
def ltOf (cf : V4 → V4 → Int) (x y : V4) : Bool := decide (cf x y < 0)
section
variable {W : World} {blk cap off : Nat} {tl : List Value} {d : Array V4}
set_option maxHeartbeats 4000000 in
theorem insertionTy (W0 : World) (cf : V4 → V4 → Int) (hC : ∀ (x y : V4) (X : World), FmTy x → FmTy y → Calls Tryd.prog 33 #[x.agg, y.agg] X fun e w' => e = .returned (.int .i64 (cf x y)) ∧ Below X.heap.size X w') (hw : Weak (ltOf cf)) (a b : Nat) (hR : Row FmTy W0 W blk 24 tl d) (ho : off = 0) (h1 : a ≤ b) (h2 : b ≤ d.size) (hs : d.size < 4611686018427387904) :
    Calls Tryd.prog 47 #[.slice (some ⟨blk, off, none⟩) d.size cap, .int .i64 a, .int .i64 b, .func (.func 33) #[] #[]] W fun e w' => e = .returned (.tuple #[]) ∧ Row FmTy W0 w' blk 24 tl (insertionSort (ltOf cf) d a b) := by
  have HR := Lib.hid hR
  have HO := Lib.hid ho
  have HC := Lib.hid hC
  have HWK := Lib.hid hw
  clear hR ho hC hw
  go_enter Tryd.func47, Tryd.ntmps47
  go_wp2
  go_loopw [8] (fun si wr => ∃ (i : Nat) (dk : Array V4), si = .int .i64 i ∧ a < i ∧ i ≤ b + 1 ∧ dk.size = d.size ∧ Row FmTy W0 wr blk 24 tl dk ∧ Hid (insOuter (ltOf cf) a b i dk = insertionSort (ltOf cf) d a b)) (fun si _ => b + 1 - (intOf si).toNat)
  case atStart => exact ⟨a + 1, d, by go_num, by omega, by omega, rfl, HR.out, rfl⟩
  case round =>
    obtain ⟨i, dk, rfl, hai, hib, hz, hr, hout⟩ := hrel
    by_cases hlt : i < b
    · have hltz : (i : Int) < (b : Int) := by omega
      have HZ := Lib.hid hz
      clear hz
      go_wp2
      go_loopw [9] (fun sj wr => ∃ (j : Nat) (dj : Array V4), sj = .int .i64 j ∧ a ≤ j ∧ j ≤ i ∧ dj.size = d.size ∧ Row FmTy W0 wr blk 24 tl dj ∧ Hid (insInner (ltOf cf) a j dj = insInner (ltOf cf) a i dk)) (fun sj _ => (intOf sj).toNat)
      case atStart => exact ⟨i, dk, rfl, by omega, Nat.le_refl _, HZ.out, hr, rfl⟩
      case round =>
        clear hr
        obtain ⟨j, dj, rfl, haj, hji, hzj, hr, hinn⟩ := hrel
        have HOUT : Hid ((insInner (ltOf cf) a j dj = dj) → insOuter (ltOf cf) a b (i + 1) dj = insertionSort (ltOf cf) d a b) := fun e => by
          rw [← hout.out]
          conv => rhs; unfold insOuter
          rw [if_pos hlt, ← hinn.out, e]
        by_cases hja : a < j
        · obtain ⟨jp, hjp⟩ : ∃ jp : Nat, (j : Int) - 1 = (jp : Int) := ⟨j - 1, by omega⟩
          have hjn : jp + 1 = j := by omega
          have hi : j < dj.size := by omega
          have hj : jp < dj.size := by omega
          obtain ⟨x, hx⟩ : ∃ x, dj[j]! = x := ⟨_, rfl⟩
          obtain ⟨y, hy⟩ : ∃ y, dj[jp]! = y := ⟨_, rfl⟩
          have hfx : FmTy x := hx ▸ hr.one _ hi
          have hfy : FmTy y := hy ▸ hr.one _ hj
          obtain ⟨p0, p1, p2, p3⟩ := hr.at_ hi hx HO.out
          obtain ⟨q0, q1, q2, q3⟩ := hr.at_ hj hy HO.out
          obtain ⟨c, hc⟩ : ∃ c, cf x y = c := ⟨_, rfl⟩
          have hcall : ∀ X, Below wr.heap.size wr X → Calls Tryd.prog 33 #[x.agg, y.agg] X fun e w' => e = .returned (.int .i64 c) ∧ Below wr.heap.size wr w' := fun X hb => (HC.out x y X hfx hfy).mono fun e w' ⟨he, hb'⟩ => ⟨hc ▸ he, hb.trans (hb'.mono hb.size)⟩
          have hless : ltOf cf dj[j]! dj[jp]! = decide (c < 0) := by unfold ltOf; rw [hx, hy, hc]
          have HLESS := Lib.hid hless
          obtain ⟨xa, xb, xc, xd, xe, xf, rfl⟩ := hfx
          obtain ⟨ya, yb, yc, yd, ye, yf, rfl⟩ := hfy
          unfold V4.agg at hcall
          dsimp only at p0 p1 p2 p3 q0 q1 q2 q3 hcall
          have HQ : Hid (∀ X, Below wr.heap.size wr X → (X.cell? ⟨blk, off + j * 4, none⟩ = some (.int .i64 xa) ∧ X.cell? ⟨blk, off + j * 4 + 1, none⟩ = some (.string xb) ∧ X.cell? ⟨blk, off + j * 4 + 2, none⟩ = some (.int .i64 xc) ∧ X.cell? ⟨blk, off + j * 4 + 3, none⟩ = some (.slice xd xe xf) ∧ X.cell? ⟨blk, off + jp * 4, none⟩ = some (.int .i64 ya) ∧ X.cell? ⟨blk, off + jp * 4 + 1, none⟩ = some (.string yb) ∧ X.cell? ⟨blk, off + jp * 4 + 2, none⟩ = some (.int .i64 yc) ∧ X.cell? ⟨blk, off + jp * 4 + 3, none⟩ = some (.slice yd ye yf))) := fun X hb =>
            ⟨(hb.cell (block_lt_of_cell p0)).trans p0, (hb.cell (block_lt_of_cell p1)).trans p1, (hb.cell (block_lt_of_cell p2)).trans p2, (hb.cell (block_lt_of_cell p3)).trans p3, (hb.cell (block_lt_of_cell q0)).trans q0, (hb.cell (block_lt_of_cell q1)).trans q1, (hb.cell (block_lt_of_cell q2)).trans q2, (hb.cell (block_lt_of_cell q3)).trans q3⟩
          have HCALL := Lib.hid hcall
          have HX := Lib.hid hx
          have HY := Lib.hid hy
          clear hcall hx hy hc hless p0 p1 p2 p3 q0 q1 q2 q3
          have HN := Lib.hid hjn
          have HZJ := Lib.hid hzj
          have b1 : (a : Int) < (j : Int) := by omega
          have b1d : decide ((a : Int) < (j : Int)) = true := decide_eq_true b1
          have b2 : (j : Int) < (d.size : Int) := by omega
          have b3 : (jp : Int) < (d.size : Int) := by omega
          have hlj : jp < j := by omega
          have hwp : IntKind.i64.wrap (jp : Int) = (jp : Int) := by rw [IntKind.wrap_i64]; omega
          have b4 : (0 : Int) ≤ (jp : Int) := by omega
          have b5 : (0 : Int) ≤ (j : Int) := by omega
          clear hjn hzj hi hj
          by_cases hlv : c < 0
          · have hd : decide (c < 0) = true := decide_eq_true hlv
            have HLV := Lib.hid hlv
            have HD := Lib.hid hd
            go_wp2_with fail
            go_region_held3 (fun X => X.cell? ⟨blk, off + j * 4, none⟩ = some (.int .i64 xa) ∧ X.cell? ⟨blk, off + j * 4 + 1, none⟩ = some (.string xb) ∧ X.cell? ⟨blk, off + j * 4 + 2, none⟩ = some (.int .i64 xc) ∧ X.cell? ⟨blk, off + j * 4 + 3, none⟩ = some (.slice xd xe xf) ∧ X.cell? ⟨blk, off + jp * 4, none⟩ = some (.int .i64 ya) ∧ X.cell? ⟨blk, off + jp * 4 + 1, none⟩ = some (.string yb) ∧ X.cell? ⟨blk, off + jp * 4 + 2, none⟩ = some (.int .i64 yc) ∧ X.cell? ⟨blk, off + jp * 4 + 3, none⟩ = some (.slice yd ye yf))
              (exact HQ.out _ (by repeat (first | (with_reducible assumption) | (with_reducible exact Below.refl _ _) | (with_reducible refine Below.drewN ?_ _) | (with_reducible refine Below.drew ?_) | with_reducible refine Below.setCell ?_ (by first | exact Nat.le_refl _ | (simp; done) | (simp; omega)) _ | with_reducible refine Below.alloc ?_ (by first | exact Nat.le_refl _ | omega | (simp; done) | (simp; omega)) _)))
              ((go_at_call 33; with_reducible refine (HCALL.out _ (by repeat (first | (with_reducible assumption) | (with_reducible exact Below.refl _ _) | (with_reducible refine Below.drewN ?_ _) | (with_reducible refine Below.drew ?_) | with_reducible refine Below.setCell ?_ (by first | exact Nat.le_refl _ | (simp; done) | (simp; omega)) _ | with_reducible refine Below.alloc ?_ (by first | exact Nat.le_refl _ | omega | (simp; done) | (simp; omega)) _))).mono ?_; rintro e w1 ⟨rfl, hb1⟩))
            go_wp2_with fail
            have hr1 : Row FmTy W0 w1 blk 24 tl dj := (by first | exact hr.later hb1 | exact (hr.later hb1).drew | exact (hr.drew).later hb1)
            have hi : j < dj.size := by rw [HZJ.out]; omega
            have hj : jp < dj.size := by rw [HZJ.out]; omega
            have f0 := hr1.free (off + j * 4)
            have f1 := hr1.free (off + j * 4 + 1)
            have f2 := hr1.free (off + j * 4 + 2)
            have f3 := hr1.free (off + j * 4 + 3)
            have g0 := hr1.free (off + jp * 4)
            have g1 := hr1.free (off + jp * 4 + 1)
            have g2 := hr1.free (off + jp * 4 + 2)
            have g3 := hr1.free (off + jp * 4 + 3)
            have HSW := Lib.hid ((hr1.swap hi hj HX.out HY.out HO.out).drew)
            dsimp only at HSW
            clear hr1 hi hj
            go_region
            all_goals go_wp2
            all_goals
              go_roundw
              case rel => exact ⟨jp, _, rfl, by omega, by omega, by rw [size_swp']; exact HZJ.out, HSW.out, by
                show _ = _
                rw [← hinn.out]
                have e1 : j = jp + 1 := HN.out.symm
                conv => rhs; rw [e1]; unfold insInner
                rw [if_pos (by rw [Bool.and_eq_true, decide_eq_true_eq]; exact ⟨by omega, by rw [← e1]; exact HLESS.out.trans HD.out⟩), ← e1]⟩
              case measure => simp [intOf]; omega
          · have hd : decide (c < 0) = false := decide_eq_false hlv
            have HE : Hid (insInner (ltOf cf) a j dj = dj) := by
              have e1 : j = jp + 1 := HN.out.symm
              show _ = _
              rw [e1]
              unfold insInner
              rw [if_neg]
              rw [Bool.and_eq_true, not_and, Bool.not_eq_true]
              intro _
              rw [← e1]
              exact HLESS.out.trans hd
            go_wp2_with fail
            go_region_held3 (fun X => X.cell? ⟨blk, off + j * 4, none⟩ = some (.int .i64 xa) ∧ X.cell? ⟨blk, off + j * 4 + 1, none⟩ = some (.string xb) ∧ X.cell? ⟨blk, off + j * 4 + 2, none⟩ = some (.int .i64 xc) ∧ X.cell? ⟨blk, off + j * 4 + 3, none⟩ = some (.slice xd xe xf) ∧ X.cell? ⟨blk, off + jp * 4, none⟩ = some (.int .i64 ya) ∧ X.cell? ⟨blk, off + jp * 4 + 1, none⟩ = some (.string yb) ∧ X.cell? ⟨blk, off + jp * 4 + 2, none⟩ = some (.int .i64 yc) ∧ X.cell? ⟨blk, off + jp * 4 + 3, none⟩ = some (.slice yd ye yf))
              (exact HQ.out _ (by repeat (first | (with_reducible assumption) | (with_reducible exact Below.refl _ _) | (with_reducible refine Below.drewN ?_ _) | (with_reducible refine Below.drew ?_) | with_reducible refine Below.setCell ?_ (by first | exact Nat.le_refl _ | (simp; done) | (simp; omega)) _ | with_reducible refine Below.alloc ?_ (by first | exact Nat.le_refl _ | omega | (simp; done) | (simp; omega)) _)))
              ((go_at_call 33; with_reducible refine (HCALL.out _ (by repeat (first | (with_reducible assumption) | (with_reducible exact Below.refl _ _) | (with_reducible refine Below.drewN ?_ _) | (with_reducible refine Below.drew ?_) | with_reducible refine Below.setCell ?_ (by first | exact Nat.le_refl _ | (simp; done) | (simp; omega)) _ | with_reducible refine Below.alloc ?_ (by first | exact Nat.le_refl _ | omega | (simp; done) | (simp; omega)) _))).mono ?_; rintro e w1 ⟨rfl, hb1⟩))
            go_wp2_with fail
            go_roundw
            case rel => exact ⟨i + 1, dj, by go_num, by omega, by omega, HZJ.out, (by first | exact hr.later hb1 | exact (hr.later hb1).drew | exact (hr.drew).later hb1), HOUT.out HE.out⟩
            case measure => simp [intOf]; omega
        · have b1d : decide ((a : Int) < (j : Int)) = false := decide_eq_false (by omega)
          have b1 : ¬ (a : Int) < (j : Int) := by omega
          have HE : Hid (insInner (ltOf cf) a j dj = dj) := by
            show _ = _
            cases j with
            | zero => unfold insInner; rfl
            | succ jq =>
              unfold insInner
              rw [if_neg]
              rw [Bool.and_eq_true, not_and, decide_eq_true_eq]
              intro h; omega
          have HZJ := Lib.hid hzj
          clear hzj
          go_wp2_with fail
          go_quiet (fail)
          go_wp2
          go_roundw
          case rel => exact ⟨i + 1, dj, by go_num, by omega, by omega, HZJ.out, Row.drewN hr _, HOUT.out HE.out⟩
          case measure => simp [intOf]; omega
    · have hltz : ¬ (i : Int) < (b : Int) := by omega
      have HE : Hid (dk = insertionSort (ltOf cf) d a b) := by
        have := hout.out
        unfold insOuter at this
        rw [if_neg hlt] at this
        exact this
      go_wp2
      go_end0
      exact ⟨rfl, by rw [← HE.out]; exact hr⟩
end
end Go.Proofs.YthchnabhbpdfgaaDoor
end

section
namespace Go.Proofs.YthchnabhbpdfgaaDoor
open Go.RowKit Go.Sort Stab
def SymPostTy (W0 : World) (blk : Nat) (tl : List Value) (less : V4 → V4 → Bool) (d : Array V4) (a m b : Nat) (e : Ending) (w' : World) : Prop :=
  e = .returned (.tuple #[]) ∧ ∃ d', Row FmTy W0 w' blk 24 tl d' ∧ Part a b d d' (merge less (seg d.toList a m) (seg d.toList m b))
section
variable {W : World} {blk cap off : Nat} {tl : List Value} {d : Array V4}
set_option maxRecDepth 100000 in
set_option maxHeartbeats 8000000 in
theorem symLeftTy (W0 : World) (cf : V4 → V4 → Int) (hC : ∀ (x y : V4) (X : World), FmTy x → FmTy y → Calls Tryd.prog 33 #[x.agg, y.agg] X fun e w' => e = .returned (.int .i64 (cf x y)) ∧ Below X.heap.size X w') (hw : Weak (ltOf cf)) (a m b : Nat) (hR : Row FmTy W0 W blk 24 tl d) (ho : off = 0) (h1 : m = a + 1) (h2 : m < b) (h3 : b ≤ d.size) (hs : d.size < 4611686018427387904) (hL : Sorted (ltOf cf) (seg d.toList a m)) (hRt : Sorted (ltOf cf) (seg d.toList m b)) :
    Calls Tryd.prog 48 #[.slice (some ⟨blk, off, none⟩) d.size cap, .int .i64 a, .int .i64 m, .int .i64 b, .func (.func 33) #[] #[]] W (SymPostTy W0 blk tl (ltOf cf) d a m b) := by
  have HR := Lib.hid hR
  have HO := Lib.hid ho
  have HC := Lib.hid hC
  have HWK := Lib.hid hw
  have HL := Lib.hid hL
  have HRT := Lib.hid hRt
  clear hR ho hC hw hL hRt
  have hb1 : (((m : Int) - (a : Int)) == 1) = true := by rw [beq_iff_eq]; omega
  have HM := Lib.hid h1
  have am : a < m := by omega
  clear h1
  go_enter Tryd.func48, Tryd.ntmps48
  go_wp2
  go_loopw [10, 11] (fun si sj wr => ∃ i j : Nat, si = .int .i64 i ∧ sj = .int .i64 j ∧ m ≤ i ∧ i ≤ j ∧ j ≤ b ∧ Row FmTy W0 wr blk 24 tl d ∧ Hid (∀ k, m ≤ k → k < i → ltOf cf d[k]! d[a]! = true) ∧ Hid (∀ k, j ≤ k → k < b → ltOf cf d[k]! d[a]! = false)) (fun si sj _ => (intOf sj - intOf si).toNat)
  case atStart => exact ⟨m, b, rfl, rfl, Nat.le_refl _, by omega, Nat.le_refl _, HR.out, fun k k1 k2 => by omega, fun k k1 k2 => by omega⟩
  case round =>
    obtain ⟨i, j, rfl, rfl, hmi, hij, hjb, hr, hlo, hhi⟩ := hrel
    by_cases hlt : i < j
    · obtain ⟨h, hh⟩ : ∃ h : Nat, ((i : Int) + (j : Int)) / 2 = (h : Int) := ⟨(i + j) / 2, by omega⟩
      have q1 : i ≤ h := by omega
      have q2 : h < j := by omega
      have q3 : (h : Int) < (d.size : Int) := by omega
      have q4 : (0 : Int) ≤ (h : Int) := by omega
      have q5 : (0 : Int) ≤ (i : Int) + (j : Int) := by omega
      have hijz : (i : Int) < (j : Int) := by omega
      have hi : h < d.size := by omega
      have hj : a < d.size := by omega
      obtain ⟨x, hx⟩ : ∃ x, d[h]! = x := ⟨_, rfl⟩
      obtain ⟨y, hy⟩ : ∃ y, d[a]! = y := ⟨_, rfl⟩
      have hfx : FmTy x := hx ▸ hr.one _ hi
      have hfy : FmTy y := hy ▸ hr.one _ hj
      obtain ⟨p0, p1, p2, p3⟩ := hr.at_ hi hx HO.out
      obtain ⟨q0, q1, q2, q3⟩ := hr.at_ hj hy HO.out
      obtain ⟨c, hc⟩ : ∃ c, cf x y = c := ⟨_, rfl⟩
      have hcall : ∀ X, Below wr.heap.size wr X → Calls Tryd.prog 33 #[x.agg, y.agg] X fun e w' => e = .returned (.int .i64 c) ∧ Below wr.heap.size wr w' := fun X hb => (HC.out x y X hfx hfy).mono fun e w' ⟨he, hb'⟩ => ⟨hc ▸ he, hb.trans (hb'.mono hb.size)⟩
      have hless : ltOf cf d[h]! d[a]! = decide (c < 0) := by unfold ltOf; rw [hx, hy, hc]
      have HLESS := Lib.hid hless
      obtain ⟨xa, xb, xc, xd, xe, xf, rfl⟩ := hfx
      obtain ⟨ya, yb, yc, yd, ye, yf, rfl⟩ := hfy
      unfold V4.agg at hcall
      dsimp only at p0 p1 p2 p3 q0 q1 q2 q3 hcall
      have HQ : Hid (∀ X, Below wr.heap.size wr X → (X.cell? ⟨blk, off + h * 4, none⟩ = some (.int .i64 xa) ∧ X.cell? ⟨blk, off + h * 4 + 1, none⟩ = some (.string xb) ∧ X.cell? ⟨blk, off + h * 4 + 2, none⟩ = some (.int .i64 xc) ∧ X.cell? ⟨blk, off + h * 4 + 3, none⟩ = some (.slice xd xe xf) ∧ X.cell? ⟨blk, off + a * 4, none⟩ = some (.int .i64 ya) ∧ X.cell? ⟨blk, off + a * 4 + 1, none⟩ = some (.string yb) ∧ X.cell? ⟨blk, off + a * 4 + 2, none⟩ = some (.int .i64 yc) ∧ X.cell? ⟨blk, off + a * 4 + 3, none⟩ = some (.slice yd ye yf))) := fun X hb =>
        ⟨(hb.cell (block_lt_of_cell p0)).trans p0, (hb.cell (block_lt_of_cell p1)).trans p1, (hb.cell (block_lt_of_cell p2)).trans p2, (hb.cell (block_lt_of_cell p3)).trans p3, (hb.cell (block_lt_of_cell q0)).trans q0, (hb.cell (block_lt_of_cell q1)).trans q1, (hb.cell (block_lt_of_cell q2)).trans q2, (hb.cell (block_lt_of_cell q3)).trans q3⟩
      have HCALL := Lib.hid hcall
      have HX := Lib.hid hx
      have HY := Lib.hid hy
      clear hcall hx hy hc hless p0 p1 p2 p3 q0 q1 q2 q3
      have b1 : (a : Int) < (d.size : Int) := by omega
      have b2 : (0 : Int) ≤ (a : Int) := by omega
      clear hi hj
      by_cases hlv : c < 0
      · have hd : decide (c < 0) = true := decide_eq_true hlv
        have HLO : Hid (∀ k, m ≤ k → k < h + 1 → ltOf cf d[k]! d[a]! = true) := bs1_lo HWK.out HRT.out h3 (by omega) (HLESS.out.trans hd)
        go_wp2_with fail
        go_region_held3 (fun X => X.cell? ⟨blk, off + h * 4, none⟩ = some (.int .i64 xa) ∧ X.cell? ⟨blk, off + h * 4 + 1, none⟩ = some (.string xb) ∧ X.cell? ⟨blk, off + h * 4 + 2, none⟩ = some (.int .i64 xc) ∧ X.cell? ⟨blk, off + h * 4 + 3, none⟩ = some (.slice xd xe xf) ∧ X.cell? ⟨blk, off + a * 4, none⟩ = some (.int .i64 ya) ∧ X.cell? ⟨blk, off + a * 4 + 1, none⟩ = some (.string yb) ∧ X.cell? ⟨blk, off + a * 4 + 2, none⟩ = some (.int .i64 yc) ∧ X.cell? ⟨blk, off + a * 4 + 3, none⟩ = some (.slice yd ye yf))
          (exact HQ.out _ (by repeat (first | (with_reducible assumption) | (with_reducible exact Below.refl _ _) | (with_reducible refine Below.drewN ?_ _) | (with_reducible refine Below.drew ?_) | with_reducible refine Below.setCell ?_ (by first | exact Nat.le_refl _ | (simp; done) | (simp; omega)) _ | with_reducible refine Below.alloc ?_ (by first | exact Nat.le_refl _ | omega | (simp; done) | (simp; omega)) _)))
          ((go_at_call 33; with_reducible refine (HCALL.out _ (by repeat (first | (with_reducible assumption) | (with_reducible exact Below.refl _ _) | (with_reducible refine Below.drewN ?_ _) | (with_reducible refine Below.drew ?_) | with_reducible refine Below.setCell ?_ (by first | exact Nat.le_refl _ | (simp; done) | (simp; omega)) _ | with_reducible refine Below.alloc ?_ (by first | exact Nat.le_refl _ | omega | (simp; done) | (simp; omega)) _))).mono ?_; rintro e w1 ⟨rfl, hb1⟩))
        go_wp2_with fail
        go_roundw
        case rel => exact ⟨h + 1, j, by go_num, rfl, by omega, by omega, hjb, (by first | exact hr.later hb1 | exact (hr.later hb1).drew | exact (hr.drew).later hb1), HLO, hhi⟩
        case measure => simp [intOf]; omega
      · have hd : decide (c < 0) = false := decide_eq_false hlv
        have HHI : Hid (∀ k, h ≤ k → k < b → ltOf cf d[k]! d[a]! = false) := bs1_hi HWK.out HRT.out h3 (by omega) (HLESS.out.trans hd)
        go_wp2_with fail
        go_region_held3 (fun X => X.cell? ⟨blk, off + h * 4, none⟩ = some (.int .i64 xa) ∧ X.cell? ⟨blk, off + h * 4 + 1, none⟩ = some (.string xb) ∧ X.cell? ⟨blk, off + h * 4 + 2, none⟩ = some (.int .i64 xc) ∧ X.cell? ⟨blk, off + h * 4 + 3, none⟩ = some (.slice xd xe xf) ∧ X.cell? ⟨blk, off + a * 4, none⟩ = some (.int .i64 ya) ∧ X.cell? ⟨blk, off + a * 4 + 1, none⟩ = some (.string yb) ∧ X.cell? ⟨blk, off + a * 4 + 2, none⟩ = some (.int .i64 yc) ∧ X.cell? ⟨blk, off + a * 4 + 3, none⟩ = some (.slice yd ye yf))
          (exact HQ.out _ (by repeat (first | (with_reducible assumption) | (with_reducible exact Below.refl _ _) | (with_reducible refine Below.drewN ?_ _) | (with_reducible refine Below.drew ?_) | with_reducible refine Below.setCell ?_ (by first | exact Nat.le_refl _ | (simp; done) | (simp; omega)) _ | with_reducible refine Below.alloc ?_ (by first | exact Nat.le_refl _ | omega | (simp; done) | (simp; omega)) _)))
          ((go_at_call 33; with_reducible refine (HCALL.out _ (by repeat (first | (with_reducible assumption) | (with_reducible exact Below.refl _ _) | (with_reducible refine Below.drewN ?_ _) | (with_reducible refine Below.drew ?_) | with_reducible refine Below.setCell ?_ (by first | exact Nat.le_refl _ | (simp; done) | (simp; omega)) _ | with_reducible refine Below.alloc ?_ (by first | exact Nat.le_refl _ | omega | (simp; done) | (simp; omega)) _))).mono ?_; rintro e w1 ⟨rfl, hb1⟩))
        go_wp2_with fail
        go_roundw
        case rel => exact ⟨i, h, rfl, rfl, hmi, by omega, by omega, (by first | exact hr.later hb1 | exact (hr.later hb1).drew | exact (hr.drew).later hb1), hlo, HHI⟩
        case measure => simp [intOf]; omega
    · have hijz : ¬ (i : Int) < (j : Int) := by omega
      have hje : i = j := by omega
      have HF := Lib.hid (sym_one_left (less := ltOf cf) (d := d) (a := a) (b := b) (i := i) (by have := HM.out; omega) (by omega) h3 (fun k k1 k2 => hlo.out k (by have := HM.out; omega) k2) (fun k k1 k2 => hhi.out k (by omega) k2))
      have HJE := Lib.hid hje
      clear hje
      go_wp2
      go_loopw [13] (fun sk wr => ∃ k t : Nat, sk = .int .i64 k ∧ k + 1 ≤ i ∧ Hid (k = a + t) ∧ Row FmTy W0 wr blk 24 tl (upR a t d)) (fun sk _ => i - (intOf sk).toNat)
      case atStart => exact ⟨a, 0, rfl, by omega, rfl, hr⟩
      case round =>
        clear hr
        obtain ⟨k, t, rfl, hki, hkt, hr⟩ := hrel
        by_cases hkl : k + 1 < i
        · have kz : (k : Int) < (i : Int) - 1 := by omega
          have hup := upR_at a d t (by have := hkt.out; omega)
          obtain ⟨dk, hdk⟩ : ∃ dk, upR a t d = dk := ⟨_, rfl⟩
          rw [hdk] at hr hup
          have hz := hup.1
          have hi : k < dk.size := by omega
          have hj : k + 1 < dk.size := by omega
          obtain ⟨x, hx⟩ : ∃ x, dk[k]! = x := ⟨_, rfl⟩
          obtain ⟨y, hy⟩ : ∃ y, dk[k + 1]! = y := ⟨_, rfl⟩
          obtain ⟨xa, xb, xc, xd, xe, xf, rfl⟩ := (hx ▸ hr.one _ hi : FmTy x)
          obtain ⟨ya, yb, yc, yd, ye, yf, rfl⟩ := (hy ▸ hr.one _ hj : FmTy y)
          obtain ⟨p0, p1, p2, p3⟩ := hr.at_ hi hx HO.out
          obtain ⟨q0, q1, q2, q3⟩ := hr.at_ hj hy HO.out
          dsimp only at p0 p1 p2 p3 q0 q1 q2 q3
          have f0 := hr.free (off + k * 4)
          have f1 := hr.free (off + k * 4 + 1)
          have f2 := hr.free (off + k * 4 + 2)
          have f3 := hr.free (off + k * 4 + 3)
          have g0 := hr.free (off + (k + 1) * 4)
          have g1 := hr.free (off + (k + 1) * 4 + 1)
          have g2 := hr.free (off + (k + 1) * 4 + 2)
          have g3 := hr.free (off + (k + 1) * 4 + 3)
          have HN := Lib.hid ((hr.swap hi hj hx hy HO.out).drew)
          dsimp only at HN
          clear hx hy
          have HD := Lib.hid hdk
          have b1 : (k : Int) < (d.size : Int) := by omega
          have b2 : (k : Int) + 1 < (d.size : Int) := by omega
          have b3 : (0 : Int) ≤ (k : Int) + 1 := by omega
          clear hr hdk hz hup hi hj
          go_wp2_with fail
          go_region
          all_goals go_wp2
          all_goals
            go_roundw
            case rel => exact ⟨k + 1, t + 1, by go_num, by omega, by have := hkt.out; show _ = _; omega, by
              have h := HN.out
              rw [← HD.out] at h
              have e := hkt.out
              subst e
              exact h⟩
            case measure => simp [intOf]; omega
        · have kz : ¬ (k : Int) < (i : Int) - 1 := by omega
          go_wp2
          go_end0
          refine ⟨rfl, _, hr, ?_⟩
          have e : t = i - 1 - a := by have := hkt.out; omega
          rw [e]
          have h := HF.out
          rw [← HM.out] at h
          exact h
set_option maxRecDepth 100000 in
set_option maxHeartbeats 8000000 in
theorem symRightTy (W0 : World) (cf : V4 → V4 → Int) (hC : ∀ (x y : V4) (X : World), FmTy x → FmTy y → Calls Tryd.prog 33 #[x.agg, y.agg] X fun e w' => e = .returned (.int .i64 (cf x y)) ∧ Below X.heap.size X w') (hw : Weak (ltOf cf)) (a m b : Nat) (hR : Row FmTy W0 W blk 24 tl d) (ho : off = 0) (h1 : b = m + 1) (h2 : a + 1 < m) (h3 : b ≤ d.size) (hs : d.size < 4611686018427387904) (hL : Sorted (ltOf cf) (seg d.toList a m)) (hRt : Sorted (ltOf cf) (seg d.toList m b)) :
    Calls Tryd.prog 48 #[.slice (some ⟨blk, off, none⟩) d.size cap, .int .i64 a, .int .i64 m, .int .i64 b, .func (.func 33) #[] #[]] W (SymPostTy W0 blk tl (ltOf cf) d a m b) := by
  have HR := Lib.hid hR
  have HO := Lib.hid ho
  have HC := Lib.hid hC
  have HWK := Lib.hid hw
  have HL := Lib.hid hL
  have HRT := Lib.hid hRt
  clear hR ho hC hw hL hRt
  have hb0 : (((m : Int) - (a : Int)) == 1) = false := by rw [beq_eq_false_iff_ne]; omega
  have hb1 : (((b : Int) - (m : Int)) == 1) = true := by rw [beq_iff_eq]; omega
  have HM := Lib.hid h1
  have am : m < b := by omega
  clear h1
  go_enter Tryd.func48, Tryd.ntmps48
  go_wp2
  go_loopw [14, 15] (fun si sj wr => ∃ i j : Nat, si = .int .i64 i ∧ sj = .int .i64 j ∧ a ≤ i ∧ i ≤ j ∧ j ≤ m ∧ Row FmTy W0 wr blk 24 tl d ∧ Hid (∀ k, a ≤ k → k < i → ltOf cf d[m]! d[k]! = false) ∧ Hid (∀ k, j ≤ k → k < m → ltOf cf d[m]! d[k]! = true)) (fun si sj _ => (intOf sj - intOf si).toNat)
  case atStart => exact ⟨a, m, rfl, rfl, Nat.le_refl _, by omega, Nat.le_refl _, HR.out, fun k k1 k2 => by omega, fun k k1 k2 => by omega⟩
  case round =>
    obtain ⟨i, j, rfl, rfl, hmi, hij, hjb, hr, hlo, hhi⟩ := hrel
    by_cases hlt : i < j
    · obtain ⟨h, hh⟩ : ∃ h : Nat, ((i : Int) + (j : Int)) / 2 = (h : Int) := ⟨(i + j) / 2, by omega⟩
      have q1 : i ≤ h := by omega
      have q2 : h < j := by omega
      have q3 : (h : Int) < (d.size : Int) := by omega
      have q4 : (0 : Int) ≤ (h : Int) := by omega
      have q5 : (0 : Int) ≤ (i : Int) + (j : Int) := by omega
      have hijz : (i : Int) < (j : Int) := by omega
      have hi : m < d.size := by omega
      have hj : h < d.size := by omega
      obtain ⟨x, hx⟩ : ∃ x, d[m]! = x := ⟨_, rfl⟩
      obtain ⟨y, hy⟩ : ∃ y, d[h]! = y := ⟨_, rfl⟩
      have hfx : FmTy x := hx ▸ hr.one _ hi
      have hfy : FmTy y := hy ▸ hr.one _ hj
      obtain ⟨p0, p1, p2, p3⟩ := hr.at_ hi hx HO.out
      obtain ⟨q0, q1, q2, q3⟩ := hr.at_ hj hy HO.out
      obtain ⟨c, hc⟩ : ∃ c, cf x y = c := ⟨_, rfl⟩
      have hcall : ∀ X, Below wr.heap.size wr X → Calls Tryd.prog 33 #[x.agg, y.agg] X fun e w' => e = .returned (.int .i64 c) ∧ Below wr.heap.size wr w' := fun X hb => (HC.out x y X hfx hfy).mono fun e w' ⟨he, hb'⟩ => ⟨hc ▸ he, hb.trans (hb'.mono hb.size)⟩
      have hless : ltOf cf d[m]! d[h]! = decide (c < 0) := by unfold ltOf; rw [hx, hy, hc]
      have HLESS := Lib.hid hless
      obtain ⟨xa, xb, xc, xd, xe, xf, rfl⟩ := hfx
      obtain ⟨ya, yb, yc, yd, ye, yf, rfl⟩ := hfy
      unfold V4.agg at hcall
      dsimp only at p0 p1 p2 p3 q0 q1 q2 q3 hcall
      have HQ : Hid (∀ X, Below wr.heap.size wr X → (X.cell? ⟨blk, off + m * 4, none⟩ = some (.int .i64 xa) ∧ X.cell? ⟨blk, off + m * 4 + 1, none⟩ = some (.string xb) ∧ X.cell? ⟨blk, off + m * 4 + 2, none⟩ = some (.int .i64 xc) ∧ X.cell? ⟨blk, off + m * 4 + 3, none⟩ = some (.slice xd xe xf) ∧ X.cell? ⟨blk, off + h * 4, none⟩ = some (.int .i64 ya) ∧ X.cell? ⟨blk, off + h * 4 + 1, none⟩ = some (.string yb) ∧ X.cell? ⟨blk, off + h * 4 + 2, none⟩ = some (.int .i64 yc) ∧ X.cell? ⟨blk, off + h * 4 + 3, none⟩ = some (.slice yd ye yf))) := fun X hb =>
        ⟨(hb.cell (block_lt_of_cell p0)).trans p0, (hb.cell (block_lt_of_cell p1)).trans p1, (hb.cell (block_lt_of_cell p2)).trans p2, (hb.cell (block_lt_of_cell p3)).trans p3, (hb.cell (block_lt_of_cell q0)).trans q0, (hb.cell (block_lt_of_cell q1)).trans q1, (hb.cell (block_lt_of_cell q2)).trans q2, (hb.cell (block_lt_of_cell q3)).trans q3⟩
      have HCALL := Lib.hid hcall
      have HX := Lib.hid hx
      have HY := Lib.hid hy
      clear hcall hx hy hc hless p0 p1 p2 p3 q0 q1 q2 q3
      have b1 : (m : Int) < (d.size : Int) := by omega
      have b2 : (0 : Int) ≤ (m : Int) := by omega
      clear hi hj
      by_cases hlv : c < 0
      · have hd : decide (c < 0) = true := decide_eq_true hlv
        have HHI : Hid (∀ k, h ≤ k → k < m → ltOf cf d[m]! d[k]! = true) := bs2_hi HWK.out HL.out (by omega) (by omega) (HLESS.out.trans hd)
        go_wp2_with fail
        go_region_held3 (fun X => X.cell? ⟨blk, off + m * 4, none⟩ = some (.int .i64 xa) ∧ X.cell? ⟨blk, off + m * 4 + 1, none⟩ = some (.string xb) ∧ X.cell? ⟨blk, off + m * 4 + 2, none⟩ = some (.int .i64 xc) ∧ X.cell? ⟨blk, off + m * 4 + 3, none⟩ = some (.slice xd xe xf) ∧ X.cell? ⟨blk, off + h * 4, none⟩ = some (.int .i64 ya) ∧ X.cell? ⟨blk, off + h * 4 + 1, none⟩ = some (.string yb) ∧ X.cell? ⟨blk, off + h * 4 + 2, none⟩ = some (.int .i64 yc) ∧ X.cell? ⟨blk, off + h * 4 + 3, none⟩ = some (.slice yd ye yf))
          (exact HQ.out _ (by repeat (first | (with_reducible assumption) | (with_reducible exact Below.refl _ _) | (with_reducible refine Below.drewN ?_ _) | (with_reducible refine Below.drew ?_) | with_reducible refine Below.setCell ?_ (by first | exact Nat.le_refl _ | (simp; done) | (simp; omega)) _ | with_reducible refine Below.alloc ?_ (by first | exact Nat.le_refl _ | omega | (simp; done) | (simp; omega)) _)))
          ((go_at_call 33; with_reducible refine (HCALL.out _ (by repeat (first | (with_reducible assumption) | (with_reducible exact Below.refl _ _) | (with_reducible refine Below.drewN ?_ _) | (with_reducible refine Below.drew ?_) | with_reducible refine Below.setCell ?_ (by first | exact Nat.le_refl _ | (simp; done) | (simp; omega)) _ | with_reducible refine Below.alloc ?_ (by first | exact Nat.le_refl _ | omega | (simp; done) | (simp; omega)) _))).mono ?_; rintro e w1 ⟨rfl, hb1⟩))
        go_wp2_with fail
        go_roundw
        case rel => exact ⟨i, h, rfl, rfl, hmi, by omega, by omega, (by first | exact hr.later hb1 | exact (hr.later hb1).drew | exact (hr.drew).later hb1), hlo, HHI⟩
        case measure => simp [intOf]; omega
      · have hd : decide (c < 0) = false := decide_eq_false hlv
        have HLO : Hid (∀ k, a ≤ k → k < h + 1 → ltOf cf d[m]! d[k]! = false) := bs2_lo HWK.out HL.out (by omega) (by omega) (HLESS.out.trans hd)
        go_wp2_with fail
        go_region_held3 (fun X => X.cell? ⟨blk, off + m * 4, none⟩ = some (.int .i64 xa) ∧ X.cell? ⟨blk, off + m * 4 + 1, none⟩ = some (.string xb) ∧ X.cell? ⟨blk, off + m * 4 + 2, none⟩ = some (.int .i64 xc) ∧ X.cell? ⟨blk, off + m * 4 + 3, none⟩ = some (.slice xd xe xf) ∧ X.cell? ⟨blk, off + h * 4, none⟩ = some (.int .i64 ya) ∧ X.cell? ⟨blk, off + h * 4 + 1, none⟩ = some (.string yb) ∧ X.cell? ⟨blk, off + h * 4 + 2, none⟩ = some (.int .i64 yc) ∧ X.cell? ⟨blk, off + h * 4 + 3, none⟩ = some (.slice yd ye yf))
          (exact HQ.out _ (by repeat (first | (with_reducible assumption) | (with_reducible exact Below.refl _ _) | (with_reducible refine Below.drewN ?_ _) | (with_reducible refine Below.drew ?_) | with_reducible refine Below.setCell ?_ (by first | exact Nat.le_refl _ | (simp; done) | (simp; omega)) _ | with_reducible refine Below.alloc ?_ (by first | exact Nat.le_refl _ | omega | (simp; done) | (simp; omega)) _)))
          ((go_at_call 33; with_reducible refine (HCALL.out _ (by repeat (first | (with_reducible assumption) | (with_reducible exact Below.refl _ _) | (with_reducible refine Below.drewN ?_ _) | (with_reducible refine Below.drew ?_) | with_reducible refine Below.setCell ?_ (by first | exact Nat.le_refl _ | (simp; done) | (simp; omega)) _ | with_reducible refine Below.alloc ?_ (by first | exact Nat.le_refl _ | omega | (simp; done) | (simp; omega)) _))).mono ?_; rintro e w1 ⟨rfl, hb1⟩))
        go_wp2_with fail
        go_roundw
        case rel => exact ⟨h + 1, j, by go_num, rfl, by omega, by omega, hjb, (by first | exact hr.later hb1 | exact (hr.later hb1).drew | exact (hr.drew).later hb1), HLO, hhi⟩
        case measure => simp [intOf]; omega
    · have hijz : ¬ (i : Int) < (j : Int) := by omega
      have hje : i = j := by omega
      have HF := Lib.hid (sym_one_right (less := ltOf cf) (d := d) (a := a) (m := m) (i := i) hmi (by omega) (by have := HM.out; omega) (fun k k1 k2 => hlo.out k k1 k2) (fun k k1 k2 => hhi.out k (by omega) k2))
      have HJE := Lib.hid hje
      clear hje
      go_wp2
      go_loopw [17] (fun sk wr => ∃ k t : Nat, sk = .int .i64 k ∧ i ≤ k ∧ k ≤ m ∧ Hid (k + t = m) ∧ Row FmTy W0 wr blk 24 tl (downR m t d)) (fun sk _ => (intOf sk).toNat)
      case atStart => exact ⟨m, 0, rfl, by omega, Nat.le_refl _, rfl, hr⟩
      case round =>
        clear hr
        obtain ⟨k, t, rfl, hik, hkm, hkt, hr⟩ := hrel
        by_cases hkl : i < k
        · have kz : (i : Int) < (k : Int) := by omega
          obtain ⟨kp, hkp⟩ : ∃ kp : Nat, (k : Int) - 1 = (kp : Int) := ⟨k - 1, by omega⟩
          have hup := downR_at m d (by omega) t (by have := hkt.out; omega)
          obtain ⟨dk, hdk⟩ : ∃ dk, downR m t d = dk := ⟨_, rfl⟩
          rw [hdk] at hr hup
          have hz := hup.1
          have hi : k < dk.size := by omega
          have hj : kp < dk.size := by omega
          obtain ⟨x, hx⟩ : ∃ x, dk[k]! = x := ⟨_, rfl⟩
          obtain ⟨y, hy⟩ : ∃ y, dk[kp]! = y := ⟨_, rfl⟩
          obtain ⟨xa, xb, xc, xd, xe, xf, rfl⟩ := (hx ▸ hr.one _ hi : FmTy x)
          obtain ⟨ya, yb, yc, yd, ye, yf, rfl⟩ := (hy ▸ hr.one _ hj : FmTy y)
          obtain ⟨p0, p1, p2, p3⟩ := hr.at_ hi hx HO.out
          obtain ⟨q0, q1, q2, q3⟩ := hr.at_ hj hy HO.out
          dsimp only at p0 p1 p2 p3 q0 q1 q2 q3
          have f0 := hr.free (off + k * 4)
          have f1 := hr.free (off + k * 4 + 1)
          have f2 := hr.free (off + k * 4 + 2)
          have f3 := hr.free (off + k * 4 + 3)
          have g0 := hr.free (off + kp * 4)
          have g1 := hr.free (off + kp * 4 + 1)
          have g2 := hr.free (off + kp * 4 + 2)
          have g3 := hr.free (off + kp * 4 + 3)
          have HN := Lib.hid ((hr.swap hi hj hx hy HO.out).drew)
          dsimp only at HN
          clear hx hy
          have HD := Lib.hid hdk
          have b1 : (k : Int) < (d.size : Int) := by omega
          have b2 : (kp : Int) < (d.size : Int) := by omega
          have b3 : (0 : Int) ≤ (kp : Int) := by omega
          have b4 : kp < k := by omega
          have hwp : IntKind.i64.wrap (kp : Int) = (kp : Int) := by rw [IntKind.wrap_i64]; omega
          clear hr hdk hz hup hi hj
          go_wp2_with fail
          go_region
          all_goals go_wp2
          all_goals
            go_roundw
            case rel => exact ⟨kp, t + 1, rfl, by omega, by omega, by have := hkt.out; show _ = _; omega, by
              have h := HN.out
              rw [← HD.out] at h
              have e := hkt.out
              have e1 : k = m - t := by omega
              have e2 : kp = m - t - 1 := by omega
              rw [e1, e2] at h ⊢
              exact h⟩
            case measure => simp [intOf]; omega
        · have kz : ¬ (i : Int) < (k : Int) := by omega
          go_wp2
          go_end0
          refine ⟨rfl, _, hr, ?_⟩
          have e : t = m - i := by have := hkt.out; omega
          rw [e]
          have h := HF.out
          rw [← HM.out] at h
          exact h
end
end Go.Proofs.YthchnabhbpdfgaaDoor
end

section
namespace Go.Proofs.YthchnabhbpdfgaaDoor
open Go.RowKit Go.Sort Stab
section
variable {W : World} {blk cap off : Nat} {tl : List Value} {d : Array V4}
set_option maxRecDepth 100000 in
set_option maxHeartbeats 8000000 in
theorem symBigTy (W0 : World) (cf : V4 → V4 → Int) (hC : ∀ (x y : V4) (X : World), FmTy x → FmTy y → Calls Tryd.prog 33 #[x.agg, y.agg] X fun e w' => e = .returned (.int .i64 (cf x y)) ∧ Below X.heap.size X w') (hw : Weak (ltOf cf)) (a m b : Nat) (hR : Row FmTy W0 W blk 24 tl d) (ho : off = 0) (h1 : a + 1 < m) (h2 : m + 1 < b) (h3 : b ≤ d.size) (hs : d.size < 4611686018427387904) (hL : Sorted (ltOf cf) (seg d.toList a m)) (hRt : Sorted (ltOf cf) (seg d.toList m b)) 
    (IH : ∀ (a' m' b' : Nat) (d' : Array V4) (W' : World), b' - a' < b - a → Row FmTy W0 W' blk 24 tl d' → a' < m' → m' < b' → b' ≤ d'.size → d'.size = d.size → Sorted (ltOf cf) (seg d'.toList a' m') → Sorted (ltOf cf) (seg d'.toList m' b') →
      Calls Tryd.prog 48 #[.slice (some ⟨blk, off, none⟩) d'.size cap, .int .i64 a', .int .i64 m', .int .i64 b', .func (.func 33) #[] #[]] W' (SymPostTy W0 blk tl (ltOf cf) d' a' m' b')) :
    Calls Tryd.prog 48 #[.slice (some ⟨blk, off, none⟩) d.size cap, .int .i64 a, .int .i64 m, .int .i64 b, .func (.func 33) #[] #[]] W (SymPostTy W0 blk tl (ltOf cf) d a m b) := by
  have HR := Lib.hid hR
  have HO := Lib.hid ho
  have HC := Lib.hid hC
  have HWK := Lib.hid hw
  have HL := Lib.hid hL
  have HRT := Lib.hid hRt
  clear hR ho hC hw hL hRt
  have hIH := Lib.hid IH
  clear IH
  have hb0 : (((m : Int) - (a : Int)) == 1) = false := by rw [beq_eq_false_iff_ne]; omega
  have hb1 : (((b : Int) - (m : Int)) == 1) = false := by rw [beq_eq_false_iff_ne]; omega
  obtain ⟨mid, hmid⟩ : ∃ mid : Nat, ((a : Int) + (b : Int)) / 2 = (mid : Int) := ⟨(a + b) / 2, by omega⟩
  have m1 : a < mid := by omega
  have m2 : mid < b := by omega
  have m3 : 2 * mid ≤ a + b := by omega
  have m4 : a + b ≤ 2 * mid + 1 := by omega
  have m5 : (0 : Int) ≤ (a : Int) + (b : Int) := by omega
  obtain ⟨s0, r0, hs0, hsr⟩ : ∃ s0 r0 : Nat, a ≤ s0 ∧ ((mid < m ∧ (mid : Int) + (m : Int) - (b : Int) = (s0 : Int) ∧ r0 = mid) ∨ (¬ mid < m ∧ s0 = a ∧ r0 = m)) := by
    by_cases h : mid < m
    · exact ⟨mid + m - b, mid, by omega, .inl ⟨h, by omega, rfl⟩⟩
    · exact ⟨a, m, Nat.le_refl _, .inr ⟨h, rfl, rfl⟩⟩
  have HSR := Lib.hid hsr
  clear hsr
  go_enter Tryd.func48, Tryd.ntmps48
  go_upto_if 140 with fail
  go_cut [20, 21] (fun v20 v21 wc => v20 = .int .i64 s0 ∧ v21 = .int .i64 r0 ∧ Row FmTy W0 wc blk 24 tl d)
  case first =>
    have hsr := HSR.out
    rcases hsr with ⟨g1, g2, rfl⟩ | ⟨g1, rfl, rfl⟩
    · have g1z : (r0 : Int) < (m : Int) := by omega
      go_wp2_with fail
      go_meet
      case rel => exact ⟨rfl, rfl, HR.out⟩
    · have g1z : ¬ (mid : Int) < (r0 : Int) := by omega
      go_wp2_with fail
      go_meet
      case rel => exact ⟨rfl, rfl, HR.out⟩
  case rest =>
    obtain ⟨rfl, rfl, hr0⟩ := hcut
    have hsr := HSR.out
    have v1 : s0 ≤ r0 := by omega
    have v2 : r0 ≤ m := by omega
    have v3 : r0 ≤ mid := by omega
    have v4 : mid + m ≤ b + s0 := by omega
    clear hsr
    go_wp2
    go_loopw [20, 21] (fun si sj wr => ∃ s r : Nat, si = .int .i64 s ∧ sj = .int .i64 r ∧ s0 ≤ s ∧ s ≤ r ∧ r ≤ r0 ∧ Row FmTy W0 wr blk 24 tl d ∧ Hid (s = s0 ∨ ltOf cf d[mid + m - s]! d[s - 1]! = false) ∧ Hid (r = r0 ∨ ltOf cf d[mid + m - 1 - r]! d[r]! = true)) (fun si sj _ => (intOf sj - intOf si).toNat)
    case atStart => exact ⟨s0, r0, rfl, rfl, Nat.le_refl _, v1, Nat.le_refl _, hr0, .inl rfl, .inl rfl⟩
    case round =>
      clear hr0
      obtain ⟨s, r, rfl, rfl, hs0s, hsr', hrr, hr, hlo, hhi⟩ := hrel
      by_cases hlt : s < r
      · obtain ⟨u, hu⟩ : ∃ u : Nat, ((s : Int) + (r : Int)) / 2 = (u : Int) := ⟨(s + r) / 2, by omega⟩
        obtain ⟨q, hq⟩ : ∃ q : Nat, (mid : Int) + (m : Int) - 1 - (u : Int) = (q : Int) := ⟨mid + m - 1 - u, by omega⟩
        have u1 : s ≤ u := by omega
        have u2 : u < r := by omega
        have u3 : (u : Int) < (d.size : Int) := by omega
        have u4 : (0 : Int) ≤ (u : Int) := by omega
        have u5 : (0 : Int) ≤ (s : Int) + (r : Int) := by omega
        have u6 : (q : Int) < (d.size : Int) := by omega
        have u7 : (0 : Int) ≤ (q : Int) := by omega
        have hslt : (s : Int) < (r : Int) := by omega
        have hi : q < d.size := by omega
        have hj : u < d.size := by omega
        have hqn : q = mid + m - 1 - u := by omega
        obtain ⟨x, hx⟩ : ∃ x, d[q]! = x := ⟨_, rfl⟩
        obtain ⟨y, hy⟩ : ∃ y, d[u]! = y := ⟨_, rfl⟩
        have hfx : FmTy x := hx ▸ hr.one _ hi
        have hfy : FmTy y := hy ▸ hr.one _ hj
        obtain ⟨p0, p1, p2, p3⟩ := hr.at_ hi hx HO.out
        obtain ⟨q0, q1, q2, q3⟩ := hr.at_ hj hy HO.out
        obtain ⟨c, hc⟩ : ∃ c, cf x y = c := ⟨_, rfl⟩
        have hcall : ∀ X, Below wr.heap.size wr X → Calls Tryd.prog 33 #[x.agg, y.agg] X fun e w' => e = .returned (.int .i64 c) ∧ Below wr.heap.size wr w' := fun X hb => (HC.out x y X hfx hfy).mono fun e w' ⟨he, hb'⟩ => ⟨hc ▸ he, hb.trans (hb'.mono hb.size)⟩
        have hless : ltOf cf d[q]! d[u]! = decide (c < 0) := by unfold ltOf; rw [hx, hy, hc]
        have HLESS := Lib.hid hless
        obtain ⟨xa, xb, xc, xd, xe, xf, rfl⟩ := hfx
        obtain ⟨ya, yb, yc, yd, ye, yf, rfl⟩ := hfy
        unfold V4.agg at hcall
        dsimp only at p0 p1 p2 p3 q0 q1 q2 q3 hcall
        have HQ : Hid (∀ X, Below wr.heap.size wr X → (X.cell? ⟨blk, off + q * 4, none⟩ = some (.int .i64 xa) ∧ X.cell? ⟨blk, off + q * 4 + 1, none⟩ = some (.string xb) ∧ X.cell? ⟨blk, off + q * 4 + 2, none⟩ = some (.int .i64 xc) ∧ X.cell? ⟨blk, off + q * 4 + 3, none⟩ = some (.slice xd xe xf) ∧ X.cell? ⟨blk, off + u * 4, none⟩ = some (.int .i64 ya) ∧ X.cell? ⟨blk, off + u * 4 + 1, none⟩ = some (.string yb) ∧ X.cell? ⟨blk, off + u * 4 + 2, none⟩ = some (.int .i64 yc) ∧ X.cell? ⟨blk, off + u * 4 + 3, none⟩ = some (.slice yd ye yf))) := fun X hb =>
          ⟨(hb.cell (block_lt_of_cell p0)).trans p0, (hb.cell (block_lt_of_cell p1)).trans p1, (hb.cell (block_lt_of_cell p2)).trans p2, (hb.cell (block_lt_of_cell p3)).trans p3, (hb.cell (block_lt_of_cell q0)).trans q0, (hb.cell (block_lt_of_cell q1)).trans q1, (hb.cell (block_lt_of_cell q2)).trans q2, (hb.cell (block_lt_of_cell q3)).trans q3⟩
        have HCALL := Lib.hid hcall
        have HX := Lib.hid hx
        have HY := Lib.hid hy
        clear hcall hx hy hc hless p0 p1 p2 p3 q0 q1 q2 q3
        have HQN := Lib.hid hqn
        have hwq : IntKind.i64.wrap (q : Int) = (q : Int) := by rw [IntKind.wrap_i64]; omega
        clear hi hj hqn
        by_cases hlv : c < 0
        · have hd : decide (c < 0) = true := decide_eq_true hlv
          have HHI : Hid (u = r0 ∨ ltOf cf d[mid + m - 1 - u]! d[u]! = true) := .inr (by rw [← HQN.out]; exact HLESS.out.trans hd)
          go_wp2_with fail
          go_region_held3 (fun X => X.cell? ⟨blk, off + q * 4, none⟩ = some (.int .i64 xa) ∧ X.cell? ⟨blk, off + q * 4 + 1, none⟩ = some (.string xb) ∧ X.cell? ⟨blk, off + q * 4 + 2, none⟩ = some (.int .i64 xc) ∧ X.cell? ⟨blk, off + q * 4 + 3, none⟩ = some (.slice xd xe xf) ∧ X.cell? ⟨blk, off + u * 4, none⟩ = some (.int .i64 ya) ∧ X.cell? ⟨blk, off + u * 4 + 1, none⟩ = some (.string yb) ∧ X.cell? ⟨blk, off + u * 4 + 2, none⟩ = some (.int .i64 yc) ∧ X.cell? ⟨blk, off + u * 4 + 3, none⟩ = some (.slice yd ye yf))
            (exact HQ.out _ (by repeat (first | (with_reducible assumption) | (with_reducible exact Below.refl _ _) | (with_reducible refine Below.drewN ?_ _) | (with_reducible refine Below.drew ?_) | with_reducible refine Below.setCell ?_ (by first | exact Nat.le_refl _ | (simp; done) | (simp; omega)) _ | with_reducible refine Below.alloc ?_ (by first | exact Nat.le_refl _ | omega | (simp; done) | (simp; omega)) _)))
            ((go_at_call 33; with_reducible refine (HCALL.out _ (by repeat (first | (with_reducible assumption) | (with_reducible exact Below.refl _ _) | (with_reducible refine Below.drewN ?_ _) | (with_reducible refine Below.drew ?_) | with_reducible refine Below.setCell ?_ (by first | exact Nat.le_refl _ | (simp; done) | (simp; omega)) _ | with_reducible refine Below.alloc ?_ (by first | exact Nat.le_refl _ | omega | (simp; done) | (simp; omega)) _))).mono ?_; rintro e w1 ⟨rfl, hb1⟩))
          go_wp2_with fail
          go_roundw
          case rel => exact ⟨s, u, rfl, rfl, hs0s, by omega, by omega, (by first | exact hr.later hb1 | exact (hr.later hb1).drew | exact (hr.drew).later hb1), hlo, HHI⟩
          case measure => simp [intOf]; omega
        · have hd : decide (c < 0) = false := decide_eq_false hlv
          have HLO : Hid (u + 1 = s0 ∨ ltOf cf d[mid + m - (u + 1)]! d[u + 1 - 1]! = false) := .inr (by rw [Nat.add_sub_cancel, show mid + m - (u + 1) = q by have := HQN.out; omega]; exact HLESS.out.trans hd)
          go_wp2_with fail
          go_region_held3 (fun X => X.cell? ⟨blk, off + q * 4, none⟩ = some (.int .i64 xa) ∧ X.cell? ⟨blk, off + q * 4 + 1, none⟩ = some (.string xb) ∧ X.cell? ⟨blk, off + q * 4 + 2, none⟩ = some (.int .i64 xc) ∧ X.cell? ⟨blk, off + q * 4 + 3, none⟩ = some (.slice xd xe xf) ∧ X.cell? ⟨blk, off + u * 4, none⟩ = some (.int .i64 ya) ∧ X.cell? ⟨blk, off + u * 4 + 1, none⟩ = some (.string yb) ∧ X.cell? ⟨blk, off + u * 4 + 2, none⟩ = some (.int .i64 yc) ∧ X.cell? ⟨blk, off + u * 4 + 3, none⟩ = some (.slice yd ye yf))
            (exact HQ.out _ (by repeat (first | (with_reducible assumption) | (with_reducible exact Below.refl _ _) | (with_reducible refine Below.drewN ?_ _) | (with_reducible refine Below.drew ?_) | with_reducible refine Below.setCell ?_ (by first | exact Nat.le_refl _ | (simp; done) | (simp; omega)) _ | with_reducible refine Below.alloc ?_ (by first | exact Nat.le_refl _ | omega | (simp; done) | (simp; omega)) _)))
            ((go_at_call 33; with_reducible refine (HCALL.out _ (by repeat (first | (with_reducible assumption) | (with_reducible exact Below.refl _ _) | (with_reducible refine Below.drewN ?_ _) | (with_reducible refine Below.drew ?_) | with_reducible refine Below.setCell ?_ (by first | exact Nat.le_refl _ | (simp; done) | (simp; omega)) _ | with_reducible refine Below.alloc ?_ (by first | exact Nat.le_refl _ | omega | (simp; done) | (simp; omega)) _))).mono ?_; rintro e w1 ⟨rfl, hb1⟩))
          go_wp2_with fail
          go_roundw
          case rel => exact ⟨u + 1, r, by go_num, rfl, by omega, by omega, hrr, (by first | exact hr.later hb1 | exact (hr.later hb1).drew | exact (hr.drew).later hb1), HLO, hhi⟩
          case measure => simp [intOf]; omega
      · have hslt : ¬ (s : Int) < (r : Int) := by omega
        have hse : s = r := by omega
        obtain ⟨e, he⟩ : ∃ e : Nat, (mid : Int) + (m : Int) - (s : Int) = (e : Int) := ⟨mid + m - s, by omega⟩
        have e1 : mid + m = s + e := by omega
        have e2 : a ≤ s := by omega
        have e3 : s ≤ m := by omega
        have e4 : m ≤ e := by omega
        have e5 : e ≤ b := by omega
        have e6 : s ≤ mid := by omega
        have e7 : mid ≤ e := by omega
        have HLO : Hid (s = a ∨ e = b ∨ ltOf cf d[e]! d[s - 1]! = false) := by
          show _ ∨ _ ∨ _
          have hsr := HSR.out
          rcases hlo.out with h | h
          · omega
          · rw [show mid + m - s = e by omega] at h
            exact .inr (.inr h)
        have HHI : Hid (s = m ∨ e = m ∨ ltOf cf d[e - 1]! d[s]! = true) := by
          show _ ∨ _ ∨ _
          have hsr := HSR.out
          rcases hhi.out with h | h
          · omega
          · rw [← hse, show mid + m - 1 - s = e - 1 by omega] at h
            exact .inr (.inr h)
        have HSE := Lib.hid hse
        have HE1 := Lib.hid e1
        clear hse e1 hlo hhi
        go_upto_region 39 with fail
        go_cut [185] from 178 to 185 (fun v wc => (∃ bb : Bool, v = .bool bb ∧ Hid (bb = decide (s < m ∧ m < e))) ∧ Row FmTy W0 wc blk 24 tl d)
        case first =>
          by_cases A : s < m
          · have Az : (s : Int) < (m : Int) := by omega
            by_cases B : m < e
            · have Bz : (m : Int) < (e : Int) := by omega
              go_wp2_with fail
              go_meet
              case rel => exact ⟨⟨_, rfl, (decide_eq_true ⟨A, B⟩).symm⟩, hr⟩
            · have Bz : ¬ (m : Int) < (e : Int) := by omega
              go_wp2_with fail
              go_meet
              case rel => exact ⟨⟨_, rfl, (decide_eq_false (fun h => B h.2)).symm⟩, hr⟩
          · have Az : ¬ (s : Int) < (m : Int) := by omega
            go_wp2_with fail
            go_meet
            case rel => exact ⟨⟨_, rfl, (decide_eq_false (fun h => A h.1)).symm⟩, hr⟩
        case rest =>
         clear hr
         obtain ⟨⟨bb, rfl, hbb⟩, hr⟩ := hcut
         go_upto_if 185 with fail
         go_cut [] from 186 to 191 (fun wc => ∃ d1, Row FmTy W0 wc blk 24 tl d1 ∧ Hid (Rot s m e d d1))
         case first =>
          cases bb
          rotate_left
          · have A : s < m ∧ m < e := of_decide_eq_true hbb.out.symm
            have HCR := Lib.hid (rotateTy (cap := cap) (.func (.func 33) #[] #[]) s m e hr HO.out A.1 A.2 (by omega) hs)
            clear A
            go_wp2_with ((go_at_call 52; with_reducible refine (HCR.out).mono ?_); rintro ee w1 ⟨rfl, d1, hr1, hrot⟩)
            go_meet
            case rel => exact ⟨d1, hr1, hrot⟩
          · have HA := Lib.hid (of_decide_eq_false hbb.out.symm)
            go_wp2_with fail
            go_meet
            case rel => exact ⟨d, hr, rot_same (by have := HA.out; omega) e3 e4⟩
         case rest =>
          clear hr
          obtain ⟨d1, hr, hrot⟩ := hcut
          have HS1 := Lib.hid (sym_sorted h3 e2 e3 e4 e5 HE1.out HL.out HRT.out hrot.out)
          have HZ1 := Lib.hid hrot.out.1
          go_upto_region 41 with fail
          go_cut [199] from 192 to 199 (fun v wc => (∃ bb : Bool, v = .bool bb ∧ Hid (bb = decide (a < s ∧ s < mid))) ∧ Row FmTy W0 wc blk 24 tl d1)
          case first =>
            by_cases A : a < s
            · have Az : (a : Int) < (s : Int) := by omega
              by_cases B : s < mid
              · have Bz : (s : Int) < (mid : Int) := by omega
                go_wp2_with fail
                go_meet
                case rel => exact ⟨⟨_, rfl, (decide_eq_true ⟨A, B⟩).symm⟩, hr⟩
              · have Bz : ¬ (s : Int) < (mid : Int) := by omega
                go_wp2_with fail
                go_meet
                case rel => exact ⟨⟨_, rfl, (decide_eq_false (fun h => B h.2)).symm⟩, hr⟩
            · have Az : ¬ (a : Int) < (s : Int) := by omega
              go_wp2_with fail
              go_meet
              case rel => exact ⟨⟨_, rfl, (decide_eq_false (fun h => A h.1)).symm⟩, hr⟩
          case rest =>
           clear hr
           obtain ⟨⟨bb, rfl, hbb⟩, hr⟩ := hcut
           go_upto_if 199 with fail
           go_cut [] from 200 to 205 (fun wc => ∃ d2, Row FmTy W0 wc blk 24 tl d2 ∧ Hid (Part a mid d1 d2 (merge (ltOf cf) (seg d1.toList a s) (seg d1.toList s mid))))
           case first =>
            cases bb
            rotate_left
            · have A : a < s ∧ s < mid := of_decide_eq_true hbb.out.symm
              have hcr := hIH.out a s mid d1 wc (by omega) hr A.1 A.2 (by rw [HZ1.out]; omega) HZ1.out HS1.out.1 HS1.out.2.1
              rw [HZ1.out] at hcr
              have HCR := Lib.hid hcr
              clear hcr A
              go_wp2_with ((go_at_call 48; with_reducible refine (HCR.out).mono ?_); rintro ee w1 ⟨rfl, d2, hr1, hp⟩)
              go_meet
              case rel => exact ⟨d2, hr1, hp⟩
            · have HA := Lib.hid (of_decide_eq_false hbb.out.symm)
              go_wp2_with fail
              go_meet
              case rel => exact ⟨d1, hr, part_left_nil e2 e6 (by have := HA.out; omega)⟩
           case rest =>
            clear hr
            obtain ⟨d2, hr, hp⟩ := hcut
            have HZ2 := Lib.hid (hp.out.size.trans HZ1.out)
            have HF : Hid (∀ d3, Part mid b d2 d3 (merge (ltOf cf) (seg d2.toList mid e) (seg d2.toList e b)) → Part a b d d3 (merge (ltOf cf) (seg d.toList a m) (seg d.toList m b))) := fun d3 hq =>
              sym_whole HWK.out h3 e2 e3 e4 e5 HE1.out HL.out HRT.out HLO.out HHI.out hrot.out hp.out hq
            have HS2 : Hid (Sorted (ltOf cf) (seg d2.toList mid e) ∧ Sorted (ltOf cf) (seg d2.toList e b)) := by
              have hz := HZ1.out
              have f1 := hp.out.far (i := mid) (j := e) (.inr (Nat.le_refl _)) (by omega)
              have f2 := hp.out.far (i := e) (j := b) (.inr e7) (by omega)
              show _ ∧ _
              rw [f1, f2]
              exact ⟨HS1.out.2.2.1, HS1.out.2.2.2⟩
            by_cases A : mid < e
            · have Az : (mid : Int) < (e : Int) := by omega
              by_cases B : e < b
              · have Bz : (e : Int) < (b : Int) := by omega
                have hcr := hIH.out mid e b d2 wc (by omega) hr A B (by rw [HZ2.out]; omega) HZ2.out HS2.out.1 HS2.out.2
                rw [HZ2.out] at hcr
                have HCR := Lib.hid hcr
                clear hcr
                go_wp2_with ((go_at_call 48; with_reducible refine (HCR.out).mono ?_); rintro ee w1 ⟨rfl, d3, hr1, hq⟩)
                go_end0
                exact ⟨rfl, d3, hr1, HF.out d3 hq⟩
              · have Bz : ¬ (e : Int) < (b : Int) := by omega
                go_wp2_with fail
                go_end0
                exact ⟨rfl, d2, hr, HF.out d2 (part_left_nil e7 e5 (.inr (by omega)))⟩
            · have Az : ¬ (mid : Int) < (e : Int) := by omega
              go_wp2_with fail
              go_end0
              exact ⟨rfl, d2, hr, HF.out d2 (part_left_nil e7 e5 (.inl (by omega)))⟩
theorem symAnyTy (W0 : World) (cf : V4 → V4 → Int) (hC : ∀ (x y : V4) (X : World), FmTy x → FmTy y → Calls Tryd.prog 33 #[x.agg, y.agg] X fun e w' => e = .returned (.int .i64 (cf x y)) ∧ Below X.heap.size X w') (hw : Weak (ltOf cf)) : ∀ (N a m b : Nat) (d : Array V4) (W : World), b - a ≤ N → Row FmTy W0 W blk 24 tl d → off = 0 → a < m → m < b → b ≤ d.size → d.size < 4611686018427387904 → Sorted (ltOf cf) (seg d.toList a m) → Sorted (ltOf cf) (seg d.toList m b) →
    Calls Tryd.prog 48 #[.slice (some ⟨blk, off, none⟩) d.size cap, .int .i64 a, .int .i64 m, .int .i64 b, .func (.func 33) #[] #[]] W (SymPostTy W0 blk tl (ltOf cf) d a m b)
  | 0, a, m, b, d, W, hN, hR, ho, h1, h2, h3, hs, hL, hRt => by omega
  | N + 1, a, m, b, d, W, hN, hR, ho, h1, h2, h3, hs, hL, hRt => by
    by_cases c1 : m = a + 1
    · exact symLeftTy W0 cf hC hw a m b hR ho c1 h2 h3 hs hL hRt
    · by_cases c2 : b = m + 1
      · exact symRightTy W0 cf hC hw a m b hR ho c2 (by omega) h3 hs hL hRt
      · exact symBigTy W0 cf hC hw a m b hR ho (by omega) (by omega) h3 hs hL hRt
          (fun a' m' b' d' W' g0 g1 g2 g3 g4 g5 g6 g7 => symAnyTy W0 cf hC hw N a' m' b' d' W' (by omega) g1 ho g2 g3 g4 (by omega) g6 g7)
end
end Go.Proofs.YthchnabhbpdfgaaDoor
end

section
namespace Go.Proofs.YthchnabhbpdfgaaDoor
open Go.RowKit Go.Sort Stab
section
variable {W : World} {blk cap off : Nat} {tl : List Value} {d : Array V4}
def StabPostTy (W0 : World) (blk : Nat) (tl : List Value) (less : V4 → V4 → Bool) (d : Array V4) (e : Ending) (w' : World) : Prop :=
  e = .returned (.tuple #[]) ∧ ∃ d', Row FmTy W0 w' blk 24 tl d' ∧ d'.size = d.size ∧ d'.toList = isort less d.toList
set_option maxRecDepth 100000 in
set_option maxHeartbeats 8000000 in
theorem stableTy (W0 : World) (cf : V4 → V4 → Int) (hC : ∀ (x y : V4) (X : World), FmTy x → FmTy y → Calls Tryd.prog 33 #[x.agg, y.agg] X fun e w' => e = .returned (.int .i64 (cf x y)) ∧ Below X.heap.size X w') (hw : Weak (ltOf cf)) (hR : Row FmTy W0 W blk 24 tl d) (ho : off = 0) (hs : d.size < 1099511627776) :
    Calls Tryd.prog 41 #[.slice (some ⟨blk, off, none⟩) d.size cap, .int .i64 d.size, .func (.func 33) #[] #[]] W (StabPostTy W0 blk tl (ltOf cf) d) := by
  have HR := Lib.hid hR
  have HO := Lib.hid ho
  have HC := Lib.hid hC
  have HWK := Lib.hid hw
  obtain ⟨n, hn⟩ : ∃ n, d.size = n := ⟨_, rfl⟩
  have HN := Lib.hid hn
  rw [hn] at hs
  clear hR ho hC hw
  rw [hn]
  clear hn
  go_enter Tryd.func41, Tryd.ntmps41
  go_wp2
  go_loopw [7, 8] (fun s7 s8 wr => ∃ (a b : Nat) (dk : Array V4), s7 = .int .i64 a ∧ s8 = .int .i64 b ∧ b = a + 20 ∧ a ≤ n ∧ Row FmTy W0 wr blk 24 tl dk ∧ Hid (dk.size = n) ∧ Hid (Ins (ltOf cf) d dk 20 a)) (fun s7 _ _ => n - (intOf s7).toNat)
  case atStart => exact ⟨0, 20, d, rfl, rfl, rfl, Nat.zero_le _, HR.out, HN.out, Ins.start d (by omega)⟩
  case round =>
    obtain ⟨a, b, dk, rfl, rfl, hab, han, hr, hz, hins⟩ := hrel
    have HAB := Lib.hid hab
    by_cases hbn : b ≤ n
    · have hbz : (b : Int) ≤ (n : Int) := by omega
      have hcr := insertionTy (cap := cap) W0 cf HC.out HWK.out a b hr HO.out (by omega) (by rw [hz.out]; exact hbn) (by rw [hz.out]; omega)
      rw [hz.out] at hcr
      have HCR := Lib.hid hcr
      have HP := Lib.hid (insertion_part HWK.out dk (show a ≤ b by omega) (by rw [hz.out]; exact hbn))
      clear hcr hab
      go_wp2_with ((go_at_call 47; with_reducible refine (HCR.out).mono ?_); rintro e w1 ⟨rfl, hr1⟩)
      go_roundw
      case rel => exact ⟨b, b + 20, _, rfl, by go_num, rfl, hbn, hr1, HP.out.size.trans hz.out, hins.out.step HAB.out (by rw [hz.out, HN.out]) (by rw [HN.out]; exact hbn) HP.out⟩
      case measure => have := HAB.out; simp [intOf]; omega
    · have hbz : ¬ (b : Int) ≤ (n : Int) := by omega
      have hcr := insertionTy (cap := cap) W0 cf HC.out HWK.out a n hr HO.out han (by rw [hz.out]; omega) (by rw [hz.out]; omega)
      rw [hz.out] at hcr
      have HCR := Lib.hid hcr
      have HP := Lib.hid (insertion_part HWK.out dk han (show n ≤ dk.size by rw [hz.out]; omega))
      have HB : Hid (Blocks (ltOf cf) d (insertionSort (ltOf cf) dk a n) 20 n) := by
        have hn := HN.out
        have h := hins.out.done (d2 := insertionSort (ltOf cf) dk a n) (by rw [hz.out, hn]) (by omega) (by omega) (by rw [hn]; exact HP.out)
        rw [hn] at h
        exact h
      have HZI := Lib.hid (HP.out.size.trans hz.out)
      clear hcr hab
      go_wp2_with ((go_at_call 47; with_reducible refine (HCR.out).mono ?_); rintro e w1 ⟨rfl, hr1⟩)
      have HR1 := Lib.hid hr1
      clear hr1 hr hins hz
      go_loopw [6] (fun s6 wr => ∃ (B : Nat) (dk : Array V4), s6 = .int .i64 B ∧ 0 < B ∧ B < 2199023255552 ∧ Row FmTy W0 wr blk 24 tl dk ∧ Hid (dk.size = n) ∧ Hid (Blocks (ltOf cf) d dk B n)) (fun s6 _ => n - (intOf s6).toNat)
      case atStart => exact ⟨20, _, rfl, by omega, by omega, HR1.out, HZI.out, HB.out⟩
      case round =>
        clear HR1 HB HZI HP HCR
        obtain ⟨B, dj, rfl, hB, hBm, hr, hz, hbl⟩ := hrel
        by_cases hBn : B < n
        · have hBz : (B : Int) < (n : Int) := by omega
          have HMID0 := Lib.hid (Mid.start hbl.out)
          go_wp2
          go_loopw [7, 8] (fun s7 s8 wr => ∃ (a c : Nat) (dk : Array V4), s7 = .int .i64 a ∧ s8 = .int .i64 c ∧ c = a + 2 * B ∧ a ≤ n ∧ Row FmTy W0 wr blk 24 tl dk ∧ Hid (dk.size = n) ∧ Hid (Mid (ltOf cf) d dk B n a)) (fun s7 _ _ => n - (intOf s7).toNat)
          case atStart => exact ⟨0, 2 * B, dj, rfl, by go_num, by omega, Nat.zero_le _, hr, hz, HMID0.out⟩
          case round =>
            clear hr hz HMID0
            obtain ⟨a, c, dk, rfl, rfl, hac, han, hr, hz, hmid⟩ := hrel
            obtain ⟨m, hm⟩ : ∃ m : Nat, (a : Int) + (B : Int) = (m : Int) := ⟨a + B, by omega⟩
            have HAC := Lib.hid hac
            have HM : Hid (m = a + B) := by show _ = _; omega
            by_cases hcn : c ≤ n
            · have hcz : (c : Int) ≤ (n : Int) := by omega
              have hask := hmid.out.ask HWK.out HM.out (b := c) (by omega) (by omega)
              have hcr := symAnyTy (cap := cap) W0 cf HC.out HWK.out _ a m c dk wr (Nat.le_refl _) hr HO.out (by omega) (by omega) (by rw [hz.out]; exact hcn) (by rw [hz.out]; omega) hask.1 hask.2
              rw [hz.out] at hcr
              have HCR := Lib.hid hcr
              clear hcr hask hac
              go_wp2_with ((go_at_call 48; with_reducible refine (HCR.out).mono ?_); rintro e w1 ⟨rfl, d2, hr1, hp⟩)
              have HP := Lib.hid hp
              clear hp
              go_roundw
              case rel => exact ⟨c, c + 2 * B, d2, rfl, by go_num, rfl, hcn, hr1, HP.out.size.trans hz.out, hmid.out.step HWK.out hB hz.out HM.out HAC.out hcn HP.out⟩
              case measure => have := HAC.out; simp [intOf]; omega
            · have hcz : ¬ (c : Int) ≤ (n : Int) := by omega
              by_cases hmn : m < n
              · have hmz : (m : Int) < (n : Int) := by omega
                have hask := hmid.out.ask HWK.out HM.out (b := n) (by omega) (by omega)
                have hcr := symAnyTy (cap := cap) W0 cf HC.out HWK.out _ a m n dk wr (Nat.le_refl _) hr HO.out (by omega) (by omega) (by rw [hz.out]; omega) (by rw [hz.out]; omega) hask.1 hask.2
                rw [hz.out] at hcr
                have HCR := Lib.hid hcr
                clear hcr hask hac
                go_wp2_with ((go_at_call 48; with_reducible refine (HCR.out).mono ?_); rintro e w1 ⟨rfl, d2, hr1, hp⟩)
                have HP := Lib.hid hp
                clear hp
                go_roundw
                case rel => exact ⟨2 * B, d2, by go_num, by omega, by omega, hr1, HP.out.size.trans hz.out, hmid.out.last HWK.out hz.out HM.out hmn (by have := HAC.out; omega) HP.out⟩
                case measure => simp [intOf]; omega
              · have hmz : ¬ (m : Int) < (n : Int) := by omega
                clear hac
                go_wp2
                go_roundw
                case rel => exact ⟨2 * B, dk, by go_num, by omega, by omega, hr, hz, hmid.out.none han hB HM.out (by omega)⟩
                case measure => simp [intOf]; omega
        · have hBz : ¬ (B : Int) < (n : Int) := by omega
          go_wp2
          go_end0
          exact ⟨rfl, dj, hr, hz.out.trans HN.out.symm, hbl.out.whole hz.out HN.out (by omega)⟩
set_option maxHeartbeats 4000000 in
theorem sortStableTy (W0 : World) (cf : V4 → V4 → Int) (hC : ∀ (x y : V4) (X : World), FmTy x → FmTy y → Calls Tryd.prog 33 #[x.agg, y.agg] X fun e w' => e = .returned (.int .i64 (cf x y)) ∧ Below X.heap.size X w') (hw : Weak (ltOf cf)) (hR : Row FmTy W0 W blk 24 tl d) (ho : off = 0) (hs : d.size < 1099511627776) :
    Calls Tryd.prog 32 #[.slice (some ⟨blk, off, none⟩) d.size cap, .func (.func 33) #[] #[]] W (StabPostTy W0 blk tl (ltOf cf) d) := by
  have HCR := Lib.hid (stableTy (cap := cap) W0 cf hC hw hR ho hs)
  clear hR ho hC hw
  go_enter Tryd.func32, Tryd.ntmps32
  go_wp2_with ((go_at_call 41; with_reducible refine (HCR.out).mono ?_); rintro e w1 ⟨rfl, hr1⟩)
  go_end0
  exact ⟨rfl, hr1⟩
/-- An empty row, a nil one too. -/
theorem sortStableNilTy (A : Option Addr) (cap : Nat) (W : World) :
    Calls Tryd.prog 32 #[.slice A 0 cap, .func (.func 33) #[] #[]] W fun e w' => e = .returned (.tuple #[]) ∧ w' = W := by
  have hins : Calls Tryd.prog 47 #[.slice A 0 cap, .int .i64 0, .int .i64 0, .func (.func 33) #[] #[]] W fun e w' => e = .returned (.tuple #[]) ∧ w' = W := by
    go_enter Tryd.func47, Tryd.ntmps47
    go_wp2
    go_loopw [8] (fun si wr => si = .int .i64 1 ∧ wr = W) (fun _ _ => 0)
    case atStart => exact ⟨rfl, rfl⟩
    case round =>
      obtain ⟨rfl, rfl⟩ := hrel
      go_wp2
      go_end0
      exact ⟨rfl, rfl⟩
  have hst : Calls Tryd.prog 41 #[.slice A 0 cap, .int .i64 0, .func (.func 33) #[] #[]] W fun e w' => e = .returned (.tuple #[]) ∧ w' = W := by
    have HCR := Lib.hid hins
    clear hins
    go_enter Tryd.func41, Tryd.ntmps41
    go_wp2
    go_loopw [7, 8] (fun s7 s8 wr => s7 = .int .i64 0 ∧ s8 = .int .i64 20 ∧ wr = W) (fun _ _ _ => 0)
    case atStart => exact ⟨rfl, rfl, rfl⟩
    case round =>
      obtain ⟨rfl, rfl, rfl⟩ := hrel
      go_wp2_with ((go_at_call 47; with_reducible refine (HCR.out).mono ?_); rintro e w1 ⟨rfl, rfl⟩)
      go_loopw [6] (fun s6 wx => s6 = .int .i64 20 ∧ wx = w1) (fun _ _ => 0)
      case atStart => exact ⟨rfl, rfl⟩
      case round =>
        obtain ⟨rfl, rfl⟩ := hrel
        go_wp2
        go_end0
        exact ⟨rfl, rfl⟩
  have HCR := Lib.hid hst
  clear hst hins
  go_enter Tryd.func32, Tryd.ntmps32
  go_wp2_with ((go_at_call 41; with_reducible refine (HCR.out).mono ?_); rintro e w1 ⟨rfl, rfl⟩)
  go_end0
  exact ⟨rfl, rfl⟩
end
end Go.Proofs.YthchnabhbpdfgaaDoor
end
