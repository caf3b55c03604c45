/- slices.stableCmpFunc and slices.SortStableFunc at provenance/api.Type: the row becomes what stable sorting makes of it. No conditions but a bound on the length. -/
import Derived.Test.YtdljlpogljjldaaDoorStabFTy
namespace Go.Proofs.YtdljlpogljjldaaDoor
open Go.RowKit Go.Sort Stab
section
variable {W : World} {blk cap off : Nat} {tl : List Value} {d : Array V4}
def StabPostTy (W0 : World) (blk : Nat) (tl : List Value) (less : V4 → V4 → Bool) (d : Array V4) (e : Ending) (w' : World) : Prop :=
  e = .returned (.tuple #[]) ∧ ∃ d', Row FmTy W0 w' blk 24 tl d' ∧ d'.size = d.size ∧ d'.toList = isort less d.toList
set_option maxRecDepth 100000 in
set_option maxHeartbeats 8000000 in
theorem stableTy (W0 : World) (cf : V4 → V4 → Int) (hC : ∀ (x y : V4) (X : World), FmTy x → FmTy y → Calls Tryd.prog 55 #[x.agg, y.agg] X fun e w' => e = .returned (.int .i64 (cf x y)) ∧ Below X.heap.size X w') (hw : Weak (ltOf cf)) (hR : Row FmTy W0 W blk 24 tl d) (ho : off = 0) (hs : d.size < 1099511627776) :
    Calls Tryd.prog 63 #[.slice (some ⟨blk, off, none⟩) d.size cap, .int .i64 d.size, .func (.func 55) #[] #[]] W (StabPostTy W0 blk tl (ltOf cf) d) := by
  have HR := Lib.hid hR
  have HO := Lib.hid ho
  have HC := Lib.hid hC
  have HWK := Lib.hid hw
  obtain ⟨n, hn⟩ : ∃ n, d.size = n := ⟨_, rfl⟩
  have HN := Lib.hid hn
  rw [hn] at hs
  clear hR ho hC hw
  rw [hn]
  clear hn
  go_enter Tryd.func63, Tryd.ntmps63
  go_wp2
  go_loopw [7, 8] (fun s7 s8 wr => ∃ (a b : Nat) (dk : Array V4), s7 = .int .i64 a ∧ s8 = .int .i64 b ∧ b = a + 20 ∧ a ≤ n ∧ Row FmTy W0 wr blk 24 tl dk ∧ Hid (dk.size = n) ∧ Hid (Ins (ltOf cf) d dk 20 a)) (fun s7 _ _ => n - (intOf s7).toNat)
  case atStart => exact ⟨0, 20, d, rfl, rfl, rfl, Nat.zero_le _, HR.out, HN.out, Ins.start d (by omega)⟩
  case round =>
    obtain ⟨a, b, dk, rfl, rfl, hab, han, hr, hz, hins⟩ := hrel
    have HAB := Lib.hid hab
    by_cases hbn : b ≤ n
    · have hbz : (b : Int) ≤ (n : Int) := by omega
      have hcr := insertionTy (cap := cap) W0 cf HC.out HWK.out a b hr HO.out (by omega) (by rw [hz.out]; exact hbn) (by rw [hz.out]; omega)
      rw [hz.out] at hcr
      have HCR := Lib.hid hcr
      have HP := Lib.hid (insertion_part HWK.out dk (show a ≤ b by omega) (by rw [hz.out]; exact hbn))
      clear hcr hab
      go_wp2_with ((go_at_call 71; with_reducible refine (HCR.out).mono ?_); rintro e w1 ⟨rfl, hr1⟩)
      go_roundw
      case rel => exact ⟨b, b + 20, _, rfl, by go_num, rfl, hbn, hr1, HP.out.size.trans hz.out, hins.out.step HAB.out (by rw [hz.out, HN.out]) (by rw [HN.out]; exact hbn) HP.out⟩
      case measure => have := HAB.out; simp [intOf]; omega
    · have hbz : ¬ (b : Int) ≤ (n : Int) := by omega
      have hcr := insertionTy (cap := cap) W0 cf HC.out HWK.out a n hr HO.out han (by rw [hz.out]; omega) (by rw [hz.out]; omega)
      rw [hz.out] at hcr
      have HCR := Lib.hid hcr
      have HP := Lib.hid (insertion_part HWK.out dk han (show n ≤ dk.size by rw [hz.out]; omega))
      have HB : Hid (Blocks (ltOf cf) d (insertionSort (ltOf cf) dk a n) 20 n) := by
        have hn := HN.out
        have h := hins.out.done (d2 := insertionSort (ltOf cf) dk a n) (by rw [hz.out, hn]) (by omega) (by omega) (by rw [hn]; exact HP.out)
        rw [hn] at h
        exact h
      have HZI := Lib.hid (HP.out.size.trans hz.out)
      clear hcr hab
      go_wp2_with ((go_at_call 71; with_reducible refine (HCR.out).mono ?_); rintro e w1 ⟨rfl, hr1⟩)
      have HR1 := Lib.hid hr1
      clear hr1 hr hins hz
      go_loopw [6] (fun s6 wr => ∃ (B : Nat) (dk : Array V4), s6 = .int .i64 B ∧ 0 < B ∧ B < 2199023255552 ∧ Row FmTy W0 wr blk 24 tl dk ∧ Hid (dk.size = n) ∧ Hid (Blocks (ltOf cf) d dk B n)) (fun s6 _ => n - (intOf s6).toNat)
      case atStart => exact ⟨20, _, rfl, by omega, by omega, HR1.out, HZI.out, HB.out⟩
      case round =>
        clear HR1 HB HZI HP HCR
        obtain ⟨B, dj, rfl, hB, hBm, hr, hz, hbl⟩ := hrel
        by_cases hBn : B < n
        · have hBz : (B : Int) < (n : Int) := by omega
          have HMID0 := Lib.hid (Mid.start hbl.out)
          go_wp2
          go_loopw [7, 8] (fun s7 s8 wr => ∃ (a c : Nat) (dk : Array V4), s7 = .int .i64 a ∧ s8 = .int .i64 c ∧ c = a + 2 * B ∧ a ≤ n ∧ Row FmTy W0 wr blk 24 tl dk ∧ Hid (dk.size = n) ∧ Hid (Mid (ltOf cf) d dk B n a)) (fun s7 _ _ => n - (intOf s7).toNat)
          case atStart => exact ⟨0, 2 * B, dj, rfl, by go_num, by omega, Nat.zero_le _, hr, hz, HMID0.out⟩
          case round =>
            clear hr hz HMID0
            obtain ⟨a, c, dk, rfl, rfl, hac, han, hr, hz, hmid⟩ := hrel
            obtain ⟨m, hm⟩ : ∃ m : Nat, (a : Int) + (B : Int) = (m : Int) := ⟨a + B, by omega⟩
            have HAC := Lib.hid hac
            have HM : Hid (m = a + B) := by show _ = _; omega
            by_cases hcn : c ≤ n
            · have hcz : (c : Int) ≤ (n : Int) := by omega
              have hask := hmid.out.ask HWK.out HM.out (b := c) (by omega) (by omega)
              have hcr := symAnyTy (cap := cap) W0 cf HC.out HWK.out _ a m c dk wr (Nat.le_refl _) hr HO.out (by omega) (by omega) (by rw [hz.out]; exact hcn) (by rw [hz.out]; omega) hask.1 hask.2
              rw [hz.out] at hcr
              have HCR := Lib.hid hcr
              clear hcr hask hac
              go_wp2_with ((go_at_call 72; with_reducible refine (HCR.out).mono ?_); rintro e w1 ⟨rfl, d2, hr1, hp⟩)
              have HP := Lib.hid hp
              clear hp
              go_roundw
              case rel => exact ⟨c, c + 2 * B, d2, rfl, by go_num, rfl, hcn, hr1, HP.out.size.trans hz.out, hmid.out.step HWK.out hB hz.out HM.out HAC.out hcn HP.out⟩
              case measure => have := HAC.out; simp [intOf]; omega
            · have hcz : ¬ (c : Int) ≤ (n : Int) := by omega
              by_cases hmn : m < n
              · have hmz : (m : Int) < (n : Int) := by omega
                have hask := hmid.out.ask HWK.out HM.out (b := n) (by omega) (by omega)
                have hcr := symAnyTy (cap := cap) W0 cf HC.out HWK.out _ a m n dk wr (Nat.le_refl _) hr HO.out (by omega) (by omega) (by rw [hz.out]; omega) (by rw [hz.out]; omega) hask.1 hask.2
                rw [hz.out] at hcr
                have HCR := Lib.hid hcr
                clear hcr hask hac
                go_wp2_with ((go_at_call 72; with_reducible refine (HCR.out).mono ?_); rintro e w1 ⟨rfl, d2, hr1, hp⟩)
                have HP := Lib.hid hp
                clear hp
                go_roundw
                case rel => exact ⟨2 * B, d2, by go_num, by omega, by omega, hr1, HP.out.size.trans hz.out, hmid.out.last HWK.out hz.out HM.out hmn (by have := HAC.out; omega) HP.out⟩
                case measure => simp [intOf]; omega
              · have hmz : ¬ (m : Int) < (n : Int) := by omega
                clear hac
                go_wp2
                go_roundw
                case rel => exact ⟨2 * B, dk, by go_num, by omega, by omega, hr, hz, hmid.out.none han hB HM.out (by omega)⟩
                case measure => simp [intOf]; omega
        · have hBz : ¬ (B : Int) < (n : Int) := by omega
          go_wp2
          go_end0
          exact ⟨rfl, dj, hr, hz.out.trans HN.out.symm, hbl.out.whole hz.out HN.out (by omega)⟩
set_option maxHeartbeats 4000000 in
theorem sortStableTy (W0 : World) (cf : V4 → V4 → Int) (hC : ∀ (x y : V4) (X : World), FmTy x → FmTy y → Calls Tryd.prog 55 #[x.agg, y.agg] X fun e w' => e = .returned (.int .i64 (cf x y)) ∧ Below X.heap.size X w') (hw : Weak (ltOf cf)) (hR : Row FmTy W0 W blk 24 tl d) (ho : off = 0) (hs : d.size < 1099511627776) :
    Calls Tryd.prog 54 #[.slice (some ⟨blk, off, none⟩) d.size cap, .func (.func 55) #[] #[]] W (StabPostTy W0 blk tl (ltOf cf) d) := by
  have HCR := Lib.hid (stableTy (cap := cap) W0 cf hC hw hR ho hs)
  clear hR ho hC hw
  go_enter Tryd.func54, Tryd.ntmps54
  go_wp2_with ((go_at_call 63; with_reducible refine (HCR.out).mono ?_); rintro e w1 ⟨rfl, hr1⟩)
  go_end0
  exact ⟨rfl, hr1⟩
/-- An empty row, a nil one too. -/
theorem sortStableNilTy (A : Option Addr) (cap : Nat) (W : World) :
    Calls Tryd.prog 54 #[.slice A 0 cap, .func (.func 55) #[] #[]] W fun e w' => e = .returned (.tuple #[]) ∧ w' = W := by
  have hins : Calls Tryd.prog 71 #[.slice A 0 cap, .int .i64 0, .int .i64 0, .func (.func 55) #[] #[]] W fun e w' => e = .returned (.tuple #[]) ∧ w' = W := by
    go_enter Tryd.func71, Tryd.ntmps71
    go_wp2
    go_loopw [8] (fun si wr => si = .int .i64 1 ∧ wr = W) (fun _ _ => 0)
    case atStart => exact ⟨rfl, rfl⟩
    case round =>
      obtain ⟨rfl, rfl⟩ := hrel
      go_wp2
      go_end0
      exact ⟨rfl, rfl⟩
  have hst : Calls Tryd.prog 63 #[.slice A 0 cap, .int .i64 0, .func (.func 55) #[] #[]] W fun e w' => e = .returned (.tuple #[]) ∧ w' = W := by
    have HCR := Lib.hid hins
    clear hins
    go_enter Tryd.func63, Tryd.ntmps63
    go_wp2
    go_loopw [7, 8] (fun s7 s8 wr => s7 = .int .i64 0 ∧ s8 = .int .i64 20 ∧ wr = W) (fun _ _ _ => 0)
    case atStart => exact ⟨rfl, rfl, rfl⟩
    case round =>
      obtain ⟨rfl, rfl, rfl⟩ := hrel
      go_wp2_with ((go_at_call 71; with_reducible refine (HCR.out).mono ?_); rintro e w1 ⟨rfl, rfl⟩)
      go_loopw [6] (fun s6 wx => s6 = .int .i64 20 ∧ wx = w1) (fun _ _ => 0)
      case atStart => exact ⟨rfl, rfl⟩
      case round =>
        obtain ⟨rfl, rfl⟩ := hrel
        go_wp2
        go_end0
        exact ⟨rfl, rfl⟩
  have HCR := Lib.hid hst
  clear hst hins
  go_enter Tryd.func54, Tryd.ntmps54
  go_wp2_with ((go_at_call 63; with_reducible refine (HCR.out).mono ?_); rintro e w1 ⟨rfl, rfl⟩)
  go_end0
  exact ⟨rfl, rfl⟩
end
end Go.Proofs.YtdljlpogljjldaaDoor
