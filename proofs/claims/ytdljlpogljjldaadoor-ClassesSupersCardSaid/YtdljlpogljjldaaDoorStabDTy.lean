/- slices.insertionSortCmpFunc and slices.symMergeCmpFunc at provenance/api.Type. No conditions but bounds. -/
import Derived.Test.YtdljlpogljjldaaDoorStabCTy
import Derived.Deep.RegionHeld3
import Derived.Deep.CutBlock
import Derived.Deep.DeepCutAuto
import Derived.RegionTactic
namespace Go.Proofs.YtdljlpogljjldaaDoor
open Go.RowKit Go.Sort Stab
def ltOf (cf : V4 → V4 → Int) (x y : V4) : Bool := decide (cf x y < 0)
section
variable {W : World} {blk cap off : Nat} {tl : List Value} {d : Array V4}
set_option maxHeartbeats 4000000 in
theorem insertionTy (W0 : World) (cf : V4 → V4 → Int) (hC : ∀ (x y : V4) (X : World), FmTy x → FmTy y → Calls Tryd.prog 55 #[x.agg, y.agg] X fun e w' => e = .returned (.int .i64 (cf x y)) ∧ Below X.heap.size X w') (hw : Weak (ltOf cf)) (a b : Nat) (hR : Row FmTy W0 W blk 24 tl d) (ho : off = 0) (h1 : a ≤ b) (h2 : b ≤ d.size) (hs : d.size < 4611686018427387904) :
    Calls Tryd.prog 71 #[.slice (some ⟨blk, off, none⟩) d.size cap, .int .i64 a, .int .i64 b, .func (.func 55) #[] #[]] W fun e w' => e = .returned (.tuple #[]) ∧ Row FmTy W0 w' blk 24 tl (insertionSort (ltOf cf) d a b) := by
  have HR := Lib.hid hR
  have HO := Lib.hid ho
  have HC := Lib.hid hC
  have HWK := Lib.hid hw
  clear hR ho hC hw
  go_enter Tryd.func71, Tryd.ntmps71
  go_wp2
  go_loopw [8] (fun si wr => ∃ (i : Nat) (dk : Array V4), si = .int .i64 i ∧ a < i ∧ i ≤ b + 1 ∧ dk.size = d.size ∧ Row FmTy W0 wr blk 24 tl dk ∧ Hid (insOuter (ltOf cf) a b i dk = insertionSort (ltOf cf) d a b)) (fun si _ => b + 1 - (intOf si).toNat)
  case atStart => exact ⟨a + 1, d, by go_num, by omega, by omega, rfl, HR.out, rfl⟩
  case round =>
    obtain ⟨i, dk, rfl, hai, hib, hz, hr, hout⟩ := hrel
    by_cases hlt : i < b
    · have hltz : (i : Int) < (b : Int) := by omega
      have HZ := Lib.hid hz
      clear hz
      go_wp2
      go_loopw [9] (fun sj wr => ∃ (j : Nat) (dj : Array V4), sj = .int .i64 j ∧ a ≤ j ∧ j ≤ i ∧ dj.size = d.size ∧ Row FmTy W0 wr blk 24 tl dj ∧ Hid (insInner (ltOf cf) a j dj = insInner (ltOf cf) a i dk)) (fun sj _ => (intOf sj).toNat)
      case atStart => exact ⟨i, dk, rfl, by omega, Nat.le_refl _, HZ.out, hr, rfl⟩
      case round =>
        clear hr
        obtain ⟨j, dj, rfl, haj, hji, hzj, hr, hinn⟩ := hrel
        have HOUT : Hid ((insInner (ltOf cf) a j dj = dj) → insOuter (ltOf cf) a b (i + 1) dj = insertionSort (ltOf cf) d a b) := fun e => by
          rw [← hout.out]
          conv => rhs; unfold insOuter
          rw [if_pos hlt, ← hinn.out, e]
        by_cases hja : a < j
        · obtain ⟨jp, hjp⟩ : ∃ jp : Nat, (j : Int) - 1 = (jp : Int) := ⟨j - 1, by omega⟩
          have hjn : jp + 1 = j := by omega
          have hi : j < dj.size := by omega
          have hj : jp < dj.size := by omega
          obtain ⟨x, hx⟩ : ∃ x, dj[j]! = x := ⟨_, rfl⟩
          obtain ⟨y, hy⟩ : ∃ y, dj[jp]! = y := ⟨_, rfl⟩
          have hfx : FmTy x := hx ▸ hr.one _ hi
          have hfy : FmTy y := hy ▸ hr.one _ hj
          obtain ⟨p0, p1, p2, p3⟩ := hr.at_ hi hx HO.out
          obtain ⟨q0, q1, q2, q3⟩ := hr.at_ hj hy HO.out
          obtain ⟨c, hc⟩ : ∃ c, cf x y = c := ⟨_, rfl⟩
          have hcall : ∀ X, Below wr.heap.size wr X → Calls Tryd.prog 55 #[x.agg, y.agg] X fun e w' => e = .returned (.int .i64 c) ∧ Below wr.heap.size wr w' := fun X hb => (HC.out x y X hfx hfy).mono fun e w' ⟨he, hb'⟩ => ⟨hc ▸ he, hb.trans (hb'.mono hb.size)⟩
          have hless : ltOf cf dj[j]! dj[jp]! = decide (c < 0) := by unfold ltOf; rw [hx, hy, hc]
          have HLESS := Lib.hid hless
          obtain ⟨xa, xb, xc, xd, xe, xf, rfl⟩ := hfx
          obtain ⟨ya, yb, yc, yd, ye, yf, rfl⟩ := hfy
          unfold V4.agg at hcall
          dsimp only at p0 p1 p2 p3 q0 q1 q2 q3 hcall
          have HQ : Hid (∀ X, Below wr.heap.size wr X → (X.cell? ⟨blk, off + j * 4, none⟩ = some (.int .i64 xa) ∧ X.cell? ⟨blk, off + j * 4 + 1, none⟩ = some (.string xb) ∧ X.cell? ⟨blk, off + j * 4 + 2, none⟩ = some (.int .i64 xc) ∧ X.cell? ⟨blk, off + j * 4 + 3, none⟩ = some (.slice xd xe xf) ∧ X.cell? ⟨blk, off + jp * 4, none⟩ = some (.int .i64 ya) ∧ X.cell? ⟨blk, off + jp * 4 + 1, none⟩ = some (.string yb) ∧ X.cell? ⟨blk, off + jp * 4 + 2, none⟩ = some (.int .i64 yc) ∧ X.cell? ⟨blk, off + jp * 4 + 3, none⟩ = some (.slice yd ye yf))) := fun X hb =>
            ⟨(hb.cell (block_lt_of_cell p0)).trans p0, (hb.cell (block_lt_of_cell p1)).trans p1, (hb.cell (block_lt_of_cell p2)).trans p2, (hb.cell (block_lt_of_cell p3)).trans p3, (hb.cell (block_lt_of_cell q0)).trans q0, (hb.cell (block_lt_of_cell q1)).trans q1, (hb.cell (block_lt_of_cell q2)).trans q2, (hb.cell (block_lt_of_cell q3)).trans q3⟩
          have HCALL := Lib.hid hcall
          have HX := Lib.hid hx
          have HY := Lib.hid hy
          clear hcall hx hy hc hless p0 p1 p2 p3 q0 q1 q2 q3
          have HN := Lib.hid hjn
          have HZJ := Lib.hid hzj
          have b1 : (a : Int) < (j : Int) := by omega
          have b1d : decide ((a : Int) < (j : Int)) = true := decide_eq_true b1
          have b2 : (j : Int) < (d.size : Int) := by omega
          have b3 : (jp : Int) < (d.size : Int) := by omega
          have hlj : jp < j := by omega
          have hwp : IntKind.i64.wrap (jp : Int) = (jp : Int) := by rw [IntKind.wrap_i64]; omega
          have b4 : (0 : Int) ≤ (jp : Int) := by omega
          have b5 : (0 : Int) ≤ (j : Int) := by omega
          clear hjn hzj hi hj
          by_cases hlv : c < 0
          · have hd : decide (c < 0) = true := decide_eq_true hlv
            have HLV := Lib.hid hlv
            have HD := Lib.hid hd
            go_wp2_with fail
            go_region_held3 (fun X => X.cell? ⟨blk, off + j * 4, none⟩ = some (.int .i64 xa) ∧ X.cell? ⟨blk, off + j * 4 + 1, none⟩ = some (.string xb) ∧ X.cell? ⟨blk, off + j * 4 + 2, none⟩ = some (.int .i64 xc) ∧ X.cell? ⟨blk, off + j * 4 + 3, none⟩ = some (.slice xd xe xf) ∧ X.cell? ⟨blk, off + jp * 4, none⟩ = some (.int .i64 ya) ∧ X.cell? ⟨blk, off + jp * 4 + 1, none⟩ = some (.string yb) ∧ X.cell? ⟨blk, off + jp * 4 + 2, none⟩ = some (.int .i64 yc) ∧ X.cell? ⟨blk, off + jp * 4 + 3, none⟩ = some (.slice yd ye yf))
              (exact HQ.out _ (by repeat (first | (with_reducible assumption) | (with_reducible exact Below.refl _ _) | (with_reducible refine Below.drewN ?_ _) | (with_reducible refine Below.drew ?_) | with_reducible refine Below.setCell ?_ (by first | exact Nat.le_refl _ | (simp; done) | (simp; omega)) _ | with_reducible refine Below.alloc ?_ (by first | exact Nat.le_refl _ | omega | (simp; done) | (simp; omega)) _)))
              ((go_at_call 55; with_reducible refine (HCALL.out _ (by repeat (first | (with_reducible assumption) | (with_reducible exact Below.refl _ _) | (with_reducible refine Below.drewN ?_ _) | (with_reducible refine Below.drew ?_) | with_reducible refine Below.setCell ?_ (by first | exact Nat.le_refl _ | (simp; done) | (simp; omega)) _ | with_reducible refine Below.alloc ?_ (by first | exact Nat.le_refl _ | omega | (simp; done) | (simp; omega)) _))).mono ?_; rintro e w1 ⟨rfl, hb1⟩))
            go_wp2_with fail
            have hr1 : Row FmTy W0 w1 blk 24 tl dj := (by first | exact hr.later hb1 | exact (hr.later hb1).drew | exact (hr.drew).later hb1)
            have hi : j < dj.size := by rw [HZJ.out]; omega
            have hj : jp < dj.size := by rw [HZJ.out]; omega
            have f0 := hr1.free (off + j * 4)
            have f1 := hr1.free (off + j * 4 + 1)
            have f2 := hr1.free (off + j * 4 + 2)
            have f3 := hr1.free (off + j * 4 + 3)
            have g0 := hr1.free (off + jp * 4)
            have g1 := hr1.free (off + jp * 4 + 1)
            have g2 := hr1.free (off + jp * 4 + 2)
            have g3 := hr1.free (off + jp * 4 + 3)
            have HSW := Lib.hid ((hr1.swap hi hj HX.out HY.out HO.out).drew)
            dsimp only at HSW
            clear hr1 hi hj
            go_region
            all_goals go_wp2
            all_goals
              go_roundw
              case rel => exact ⟨jp, _, rfl, by omega, by omega, by rw [size_swp']; exact HZJ.out, HSW.out, by
                show _ = _
                rw [← hinn.out]
                have e1 : j = jp + 1 := HN.out.symm
                conv => rhs; rw [e1]; unfold insInner
                rw [if_pos (by rw [Bool.and_eq_true, decide_eq_true_eq]; exact ⟨by omega, by rw [← e1]; exact HLESS.out.trans HD.out⟩), ← e1]⟩
              case measure => simp [intOf]; omega
          · have hd : decide (c < 0) = false := decide_eq_false hlv
            have HE : Hid (insInner (ltOf cf) a j dj = dj) := by
              have e1 : j = jp + 1 := HN.out.symm
              show _ = _
              rw [e1]
              unfold insInner
              rw [if_neg]
              rw [Bool.and_eq_true, not_and, Bool.not_eq_true]
              intro _
              rw [← e1]
              exact HLESS.out.trans hd
            go_wp2_with fail
            go_region_held3 (fun X => X.cell? ⟨blk, off + j * 4, none⟩ = some (.int .i64 xa) ∧ X.cell? ⟨blk, off + j * 4 + 1, none⟩ = some (.string xb) ∧ X.cell? ⟨blk, off + j * 4 + 2, none⟩ = some (.int .i64 xc) ∧ X.cell? ⟨blk, off + j * 4 + 3, none⟩ = some (.slice xd xe xf) ∧ X.cell? ⟨blk, off + jp * 4, none⟩ = some (.int .i64 ya) ∧ X.cell? ⟨blk, off + jp * 4 + 1, none⟩ = some (.string yb) ∧ X.cell? ⟨blk, off + jp * 4 + 2, none⟩ = some (.int .i64 yc) ∧ X.cell? ⟨blk, off + jp * 4 + 3, none⟩ = some (.slice yd ye yf))
              (exact HQ.out _ (by repeat (first | (with_reducible assumption) | (with_reducible exact Below.refl _ _) | (with_reducible refine Below.drewN ?_ _) | (with_reducible refine Below.drew ?_) | with_reducible refine Below.setCell ?_ (by first | exact Nat.le_refl _ | (simp; done) | (simp; omega)) _ | with_reducible refine Below.alloc ?_ (by first | exact Nat.le_refl _ | omega | (simp; done) | (simp; omega)) _)))
              ((go_at_call 55; with_reducible refine (HCALL.out _ (by repeat (first | (with_reducible assumption) | (with_reducible exact Below.refl _ _) | (with_reducible refine Below.drewN ?_ _) | (with_reducible refine Below.drew ?_) | with_reducible refine Below.setCell ?_ (by first | exact Nat.le_refl _ | (simp; done) | (simp; omega)) _ | with_reducible refine Below.alloc ?_ (by first | exact Nat.le_refl _ | omega | (simp; done) | (simp; omega)) _))).mono ?_; rintro e w1 ⟨rfl, hb1⟩))
            go_wp2_with fail
            go_roundw
            case rel => exact ⟨i + 1, dj, by go_num, by omega, by omega, HZJ.out, (by first | exact hr.later hb1 | exact (hr.later hb1).drew | exact (hr.drew).later hb1), HOUT.out HE.out⟩
            case measure => simp [intOf]; omega
        · have b1d : decide ((a : Int) < (j : Int)) = false := decide_eq_false (by omega)
          have b1 : ¬ (a : Int) < (j : Int) := by omega
          have HE : Hid (insInner (ltOf cf) a j dj = dj) := by
            show _ = _
            cases j with
            | zero => unfold insInner; rfl
            | succ jq =>
              unfold insInner
              rw [if_neg]
              rw [Bool.and_eq_true, not_and, decide_eq_true_eq]
              intro h; omega
          have HZJ := Lib.hid hzj
          clear hzj
          go_wp2_with fail
          go_quiet (fail)
          go_wp2
          go_roundw
          case rel => exact ⟨i + 1, dj, by go_num, by omega, by omega, HZJ.out, Row.drewN hr _, HOUT.out HE.out⟩
          case measure => simp [intOf]; omega
    · have hltz : ¬ (i : Int) < (b : Int) := by omega
      have HE : Hid (dk = insertionSort (ltOf cf) d a b) := by
        have := hout.out
        unfold insOuter at this
        rw [if_neg hlt] at this
        exact this
      go_wp2
      go_end0
      exact ⟨rfl, by rw [← HE.out]; exact hr⟩
end
end Go.Proofs.YtdljlpogljjldaaDoor
