/- slices.symMergeCmpFunc at provenance/api.Type, whole. No conditions but bounds. -/
import Derived.Test.YtdljlpogljjldaaDoorStabETy
namespace Go.Proofs.YtdljlpogljjldaaDoor
open Go.RowKit Go.Sort Stab
section
variable {W : World} {blk cap off : Nat} {tl : List Value} {d : Array V4}
set_option maxRecDepth 100000 in
set_option maxHeartbeats 8000000 in
theorem symBigTy (W0 : World) (cf : V4 → V4 → Int) (hC : ∀ (x y : V4) (X : World), FmTy x → FmTy y → Calls Tryd.prog 55 #[x.agg, y.agg] X fun e w' => e = .returned (.int .i64 (cf x y)) ∧ Below X.heap.size X w') (hw : Weak (ltOf cf)) (a m b : Nat) (hR : Row FmTy W0 W blk 24 tl d) (ho : off = 0) (h1 : a + 1 < m) (h2 : m + 1 < b) (h3 : b ≤ d.size) (hs : d.size < 4611686018427387904) (hL : Sorted (ltOf cf) (seg d.toList a m)) (hRt : Sorted (ltOf cf) (seg d.toList m b)) 
    (IH : ∀ (a' m' b' : Nat) (d' : Array V4) (W' : World), b' - a' < b - a → Row FmTy W0 W' blk 24 tl d' → a' < m' → m' < b' → b' ≤ d'.size → d'.size = d.size → Sorted (ltOf cf) (seg d'.toList a' m') → Sorted (ltOf cf) (seg d'.toList m' b') →
      Calls Tryd.prog 72 #[.slice (some ⟨blk, off, none⟩) d'.size cap, .int .i64 a', .int .i64 m', .int .i64 b', .func (.func 55) #[] #[]] W' (SymPostTy W0 blk tl (ltOf cf) d' a' m' b')) :
    Calls Tryd.prog 72 #[.slice (some ⟨blk, off, none⟩) d.size cap, .int .i64 a, .int .i64 m, .int .i64 b, .func (.func 55) #[] #[]] W (SymPostTy W0 blk tl (ltOf cf) d a m b) := by
  have HR := Lib.hid hR
  have HO := Lib.hid ho
  have HC := Lib.hid hC
  have HWK := Lib.hid hw
  have HL := Lib.hid hL
  have HRT := Lib.hid hRt
  clear hR ho hC hw hL hRt
  have hIH := Lib.hid IH
  clear IH
  have hb0 : (((m : Int) - (a : Int)) == 1) = false := by rw [beq_eq_false_iff_ne]; omega
  have hb1 : (((b : Int) - (m : Int)) == 1) = false := by rw [beq_eq_false_iff_ne]; omega
  obtain ⟨mid, hmid⟩ : ∃ mid : Nat, ((a : Int) + (b : Int)) / 2 = (mid : Int) := ⟨(a + b) / 2, by omega⟩
  have m1 : a < mid := by omega
  have m2 : mid < b := by omega
  have m3 : 2 * mid ≤ a + b := by omega
  have m4 : a + b ≤ 2 * mid + 1 := by omega
  have m5 : (0 : Int) ≤ (a : Int) + (b : Int) := by omega
  obtain ⟨s0, r0, hs0, hsr⟩ : ∃ s0 r0 : Nat, a ≤ s0 ∧ ((mid < m ∧ (mid : Int) + (m : Int) - (b : Int) = (s0 : Int) ∧ r0 = mid) ∨ (¬ mid < m ∧ s0 = a ∧ r0 = m)) := by
    by_cases h : mid < m
    · exact ⟨mid + m - b, mid, by omega, .inl ⟨h, by omega, rfl⟩⟩
    · exact ⟨a, m, Nat.le_refl _, .inr ⟨h, rfl, rfl⟩⟩
  have HSR := Lib.hid hsr
  clear hsr
  go_enter Tryd.func72, Tryd.ntmps72
  go_upto_if 140 with fail
  go_cut [20, 21] (fun v20 v21 wc => v20 = .int .i64 s0 ∧ v21 = .int .i64 r0 ∧ Row FmTy W0 wc blk 24 tl d)
  case first =>
    have hsr := HSR.out
    rcases hsr with ⟨g1, g2, rfl⟩ | ⟨g1, rfl, rfl⟩
    · have g1z : (r0 : Int) < (m : Int) := by omega
      go_wp2_with fail
      go_meet
      case rel => exact ⟨rfl, rfl, HR.out⟩
    · have g1z : ¬ (mid : Int) < (r0 : Int) := by omega
      go_wp2_with fail
      go_meet
      case rel => exact ⟨rfl, rfl, HR.out⟩
  case rest =>
    obtain ⟨rfl, rfl, hr0⟩ := hcut
    have hsr := HSR.out
    have v1 : s0 ≤ r0 := by omega
    have v2 : r0 ≤ m := by omega
    have v3 : r0 ≤ mid := by omega
    have v4 : mid + m ≤ b + s0 := by omega
    clear hsr
    go_wp2
    go_loopw [20, 21] (fun si sj wr => ∃ s r : Nat, si = .int .i64 s ∧ sj = .int .i64 r ∧ s0 ≤ s ∧ s ≤ r ∧ r ≤ r0 ∧ Row FmTy W0 wr blk 24 tl d ∧ Hid (s = s0 ∨ ltOf cf d[mid + m - s]! d[s - 1]! = false) ∧ Hid (r = r0 ∨ ltOf cf d[mid + m - 1 - r]! d[r]! = true)) (fun si sj _ => (intOf sj - intOf si).toNat)
    case atStart => exact ⟨s0, r0, rfl, rfl, Nat.le_refl _, v1, Nat.le_refl _, hr0, .inl rfl, .inl rfl⟩
    case round =>
      clear hr0
      obtain ⟨s, r, rfl, rfl, hs0s, hsr', hrr, hr, hlo, hhi⟩ := hrel
      by_cases hlt : s < r
      · obtain ⟨u, hu⟩ : ∃ u : Nat, ((s : Int) + (r : Int)) / 2 = (u : Int) := ⟨(s + r) / 2, by omega⟩
        obtain ⟨q, hq⟩ : ∃ q : Nat, (mid : Int) + (m : Int) - 1 - (u : Int) = (q : Int) := ⟨mid + m - 1 - u, by omega⟩
        have u1 : s ≤ u := by omega
        have u2 : u < r := by omega
        have u3 : (u : Int) < (d.size : Int) := by omega
        have u4 : (0 : Int) ≤ (u : Int) := by omega
        have u5 : (0 : Int) ≤ (s : Int) + (r : Int) := by omega
        have u6 : (q : Int) < (d.size : Int) := by omega
        have u7 : (0 : Int) ≤ (q : Int) := by omega
        have hslt : (s : Int) < (r : Int) := by omega
        have hi : q < d.size := by omega
        have hj : u < d.size := by omega
        have hqn : q = mid + m - 1 - u := by omega
        obtain ⟨x, hx⟩ : ∃ x, d[q]! = x := ⟨_, rfl⟩
        obtain ⟨y, hy⟩ : ∃ y, d[u]! = y := ⟨_, rfl⟩
        have hfx : FmTy x := hx ▸ hr.one _ hi
        have hfy : FmTy y := hy ▸ hr.one _ hj
        obtain ⟨p0, p1, p2, p3⟩ := hr.at_ hi hx HO.out
        obtain ⟨q0, q1, q2, q3⟩ := hr.at_ hj hy HO.out
        obtain ⟨c, hc⟩ : ∃ c, cf x y = c := ⟨_, rfl⟩
        have hcall : ∀ X, Below wr.heap.size wr X → Calls Tryd.prog 55 #[x.agg, y.agg] X fun e w' => e = .returned (.int .i64 c) ∧ Below wr.heap.size wr w' := fun X hb => (HC.out x y X hfx hfy).mono fun e w' ⟨he, hb'⟩ => ⟨hc ▸ he, hb.trans (hb'.mono hb.size)⟩
        have hless : ltOf cf d[q]! d[u]! = decide (c < 0) := by unfold ltOf; rw [hx, hy, hc]
        have HLESS := Lib.hid hless
        obtain ⟨xa, xb, xc, xd, xe, xf, rfl⟩ := hfx
        obtain ⟨ya, yb, yc, yd, ye, yf, rfl⟩ := hfy
        unfold V4.agg at hcall
        dsimp only at p0 p1 p2 p3 q0 q1 q2 q3 hcall
        have HQ : Hid (∀ X, Below wr.heap.size wr X → (X.cell? ⟨blk, off + q * 4, none⟩ = some (.int .i64 xa) ∧ X.cell? ⟨blk, off + q * 4 + 1, none⟩ = some (.string xb) ∧ X.cell? ⟨blk, off + q * 4 + 2, none⟩ = some (.int .i64 xc) ∧ X.cell? ⟨blk, off + q * 4 + 3, none⟩ = some (.slice xd xe xf) ∧ X.cell? ⟨blk, off + u * 4, none⟩ = some (.int .i64 ya) ∧ X.cell? ⟨blk, off + u * 4 + 1, none⟩ = some (.string yb) ∧ X.cell? ⟨blk, off + u * 4 + 2, none⟩ = some (.int .i64 yc) ∧ X.cell? ⟨blk, off + u * 4 + 3, none⟩ = some (.slice yd ye yf))) := fun X hb =>
          ⟨(hb.cell (block_lt_of_cell p0)).trans p0, (hb.cell (block_lt_of_cell p1)).trans p1, (hb.cell (block_lt_of_cell p2)).trans p2, (hb.cell (block_lt_of_cell p3)).trans p3, (hb.cell (block_lt_of_cell q0)).trans q0, (hb.cell (block_lt_of_cell q1)).trans q1, (hb.cell (block_lt_of_cell q2)).trans q2, (hb.cell (block_lt_of_cell q3)).trans q3⟩
        have HCALL := Lib.hid hcall
        have HX := Lib.hid hx
        have HY := Lib.hid hy
        clear hcall hx hy hc hless p0 p1 p2 p3 q0 q1 q2 q3
        have HQN := Lib.hid hqn
        have hwq : IntKind.i64.wrap (q : Int) = (q : Int) := by rw [IntKind.wrap_i64]; omega
        clear hi hj hqn
        by_cases hlv : c < 0
        · have hd : decide (c < 0) = true := decide_eq_true hlv
          have HHI : Hid (u = r0 ∨ ltOf cf d[mid + m - 1 - u]! d[u]! = true) := .inr (by rw [← HQN.out]; exact HLESS.out.trans hd)
          go_wp2_with fail
          go_region_held3 (fun X => X.cell? ⟨blk, off + q * 4, none⟩ = some (.int .i64 xa) ∧ X.cell? ⟨blk, off + q * 4 + 1, none⟩ = some (.string xb) ∧ X.cell? ⟨blk, off + q * 4 + 2, none⟩ = some (.int .i64 xc) ∧ X.cell? ⟨blk, off + q * 4 + 3, none⟩ = some (.slice xd xe xf) ∧ X.cell? ⟨blk, off + u * 4, none⟩ = some (.int .i64 ya) ∧ X.cell? ⟨blk, off + u * 4 + 1, none⟩ = some (.string yb) ∧ X.cell? ⟨blk, off + u * 4 + 2, none⟩ = some (.int .i64 yc) ∧ X.cell? ⟨blk, off + u * 4 + 3, none⟩ = some (.slice yd ye yf))
            (exact HQ.out _ (by repeat (first | (with_reducible assumption) | (with_reducible exact Below.refl _ _) | (with_reducible refine Below.drewN ?_ _) | (with_reducible refine Below.drew ?_) | with_reducible refine Below.setCell ?_ (by first | exact Nat.le_refl _ | (simp; done) | (simp; omega)) _ | with_reducible refine Below.alloc ?_ (by first | exact Nat.le_refl _ | omega | (simp; done) | (simp; omega)) _)))
            ((go_at_call 55; with_reducible refine (HCALL.out _ (by repeat (first | (with_reducible assumption) | (with_reducible exact Below.refl _ _) | (with_reducible refine Below.drewN ?_ _) | (with_reducible refine Below.drew ?_) | with_reducible refine Below.setCell ?_ (by first | exact Nat.le_refl _ | (simp; done) | (simp; omega)) _ | with_reducible refine Below.alloc ?_ (by first | exact Nat.le_refl _ | omega | (simp; done) | (simp; omega)) _))).mono ?_; rintro e w1 ⟨rfl, hb1⟩))
          go_wp2_with fail
          go_roundw
          case rel => exact ⟨s, u, rfl, rfl, hs0s, by omega, by omega, (by first | exact hr.later hb1 | exact (hr.later hb1).drew | exact (hr.drew).later hb1), hlo, HHI⟩
          case measure => simp [intOf]; omega
        · have hd : decide (c < 0) = false := decide_eq_false hlv
          have HLO : Hid (u + 1 = s0 ∨ ltOf cf d[mid + m - (u + 1)]! d[u + 1 - 1]! = false) := .inr (by rw [Nat.add_sub_cancel, show mid + m - (u + 1) = q by have := HQN.out; omega]; exact HLESS.out.trans hd)
          go_wp2_with fail
          go_region_held3 (fun X => X.cell? ⟨blk, off + q * 4, none⟩ = some (.int .i64 xa) ∧ X.cell? ⟨blk, off + q * 4 + 1, none⟩ = some (.string xb) ∧ X.cell? ⟨blk, off + q * 4 + 2, none⟩ = some (.int .i64 xc) ∧ X.cell? ⟨blk, off + q * 4 + 3, none⟩ = some (.slice xd xe xf) ∧ X.cell? ⟨blk, off + u * 4, none⟩ = some (.int .i64 ya) ∧ X.cell? ⟨blk, off + u * 4 + 1, none⟩ = some (.string yb) ∧ X.cell? ⟨blk, off + u * 4 + 2, none⟩ = some (.int .i64 yc) ∧ X.cell? ⟨blk, off + u * 4 + 3, none⟩ = some (.slice yd ye yf))
            (exact HQ.out _ (by repeat (first | (with_reducible assumption) | (with_reducible exact Below.refl _ _) | (with_reducible refine Below.drewN ?_ _) | (with_reducible refine Below.drew ?_) | with_reducible refine Below.setCell ?_ (by first | exact Nat.le_refl _ | (simp; done) | (simp; omega)) _ | with_reducible refine Below.alloc ?_ (by first | exact Nat.le_refl _ | omega | (simp; done) | (simp; omega)) _)))
            ((go_at_call 55; with_reducible refine (HCALL.out _ (by repeat (first | (with_reducible assumption) | (with_reducible exact Below.refl _ _) | (with_reducible refine Below.drewN ?_ _) | (with_reducible refine Below.drew ?_) | with_reducible refine Below.setCell ?_ (by first | exact Nat.le_refl _ | (simp; done) | (simp; omega)) _ | with_reducible refine Below.alloc ?_ (by first | exact Nat.le_refl _ | omega | (simp; done) | (simp; omega)) _))).mono ?_; rintro e w1 ⟨rfl, hb1⟩))
          go_wp2_with fail
          go_roundw
          case rel => exact ⟨u + 1, r, by go_num, rfl, by omega, by omega, hrr, (by first | exact hr.later hb1 | exact (hr.later hb1).drew | exact (hr.drew).later hb1), HLO, hhi⟩
          case measure => simp [intOf]; omega
      · have hslt : ¬ (s : Int) < (r : Int) := by omega
        have hse : s = r := by omega
        obtain ⟨e, he⟩ : ∃ e : Nat, (mid : Int) + (m : Int) - (s : Int) = (e : Int) := ⟨mid + m - s, by omega⟩
        have e1 : mid + m = s + e := by omega
        have e2 : a ≤ s := by omega
        have e3 : s ≤ m := by omega
        have e4 : m ≤ e := by omega
        have e5 : e ≤ b := by omega
        have e6 : s ≤ mid := by omega
        have e7 : mid ≤ e := by omega
        have HLO : Hid (s = a ∨ e = b ∨ ltOf cf d[e]! d[s - 1]! = false) := by
          show _ ∨ _ ∨ _
          have hsr := HSR.out
          rcases hlo.out with h | h
          · omega
          · rw [show mid + m - s = e by omega] at h
            exact .inr (.inr h)
        have HHI : Hid (s = m ∨ e = m ∨ ltOf cf d[e - 1]! d[s]! = true) := by
          show _ ∨ _ ∨ _
          have hsr := HSR.out
          rcases hhi.out with h | h
          · omega
          · rw [← hse, show mid + m - 1 - s = e - 1 by omega] at h
            exact .inr (.inr h)
        have HSE := Lib.hid hse
        have HE1 := Lib.hid e1
        clear hse e1 hlo hhi
        go_upto_region 39 with fail
        go_cut [185] from 178 to 185 (fun v wc => (∃ bb : Bool, v = .bool bb ∧ Hid (bb = decide (s < m ∧ m < e))) ∧ Row FmTy W0 wc blk 24 tl d)
        case first =>
          by_cases A : s < m
          · have Az : (s : Int) < (m : Int) := by omega
            by_cases B : m < e
            · have Bz : (m : Int) < (e : Int) := by omega
              go_wp2_with fail
              go_meet
              case rel => exact ⟨⟨_, rfl, (decide_eq_true ⟨A, B⟩).symm⟩, hr⟩
            · have Bz : ¬ (m : Int) < (e : Int) := by omega
              go_wp2_with fail
              go_meet
              case rel => exact ⟨⟨_, rfl, (decide_eq_false (fun h => B h.2)).symm⟩, hr⟩
          · have Az : ¬ (s : Int) < (m : Int) := by omega
            go_wp2_with fail
            go_meet
            case rel => exact ⟨⟨_, rfl, (decide_eq_false (fun h => A h.1)).symm⟩, hr⟩
        case rest =>
         clear hr
         obtain ⟨⟨bb, rfl, hbb⟩, hr⟩ := hcut
         go_upto_if 185 with fail
         go_cut [] from 186 to 191 (fun wc => ∃ d1, Row FmTy W0 wc blk 24 tl d1 ∧ Hid (Rot s m e d d1))
         case first =>
          cases bb
          rotate_left
          · have A : s < m ∧ m < e := of_decide_eq_true hbb.out.symm
            have HCR := Lib.hid (rotateTy (cap := cap) (.func (.func 55) #[] #[]) s m e hr HO.out A.1 A.2 (by omega) hs)
            clear A
            go_wp2_with ((go_at_call 75; with_reducible refine (HCR.out).mono ?_); rintro ee w1 ⟨rfl, d1, hr1, hrot⟩)
            go_meet
            case rel => exact ⟨d1, hr1, hrot⟩
          · have HA := Lib.hid (of_decide_eq_false hbb.out.symm)
            go_wp2_with fail
            go_meet
            case rel => exact ⟨d, hr, rot_same (by have := HA.out; omega) e3 e4⟩
         case rest =>
          clear hr
          obtain ⟨d1, hr, hrot⟩ := hcut
          have HS1 := Lib.hid (sym_sorted h3 e2 e3 e4 e5 HE1.out HL.out HRT.out hrot.out)
          have HZ1 := Lib.hid hrot.out.1
          go_upto_region 41 with fail
          go_cut [199] from 192 to 199 (fun v wc => (∃ bb : Bool, v = .bool bb ∧ Hid (bb = decide (a < s ∧ s < mid))) ∧ Row FmTy W0 wc blk 24 tl d1)
          case first =>
            by_cases A : a < s
            · have Az : (a : Int) < (s : Int) := by omega
              by_cases B : s < mid
              · have Bz : (s : Int) < (mid : Int) := by omega
                go_wp2_with fail
                go_meet
                case rel => exact ⟨⟨_, rfl, (decide_eq_true ⟨A, B⟩).symm⟩, hr⟩
              · have Bz : ¬ (s : Int) < (mid : Int) := by omega
                go_wp2_with fail
                go_meet
                case rel => exact ⟨⟨_, rfl, (decide_eq_false (fun h => B h.2)).symm⟩, hr⟩
            · have Az : ¬ (a : Int) < (s : Int) := by omega
              go_wp2_with fail
              go_meet
              case rel => exact ⟨⟨_, rfl, (decide_eq_false (fun h => A h.1)).symm⟩, hr⟩
          case rest =>
           clear hr
           obtain ⟨⟨bb, rfl, hbb⟩, hr⟩ := hcut
           go_upto_if 199 with fail
           go_cut [] from 200 to 205 (fun wc => ∃ d2, Row FmTy W0 wc blk 24 tl d2 ∧ Hid (Part a mid d1 d2 (merge (ltOf cf) (seg d1.toList a s) (seg d1.toList s mid))))
           case first =>
            cases bb
            rotate_left
            · have A : a < s ∧ s < mid := of_decide_eq_true hbb.out.symm
              have hcr := hIH.out a s mid d1 wc (by omega) hr A.1 A.2 (by rw [HZ1.out]; omega) HZ1.out HS1.out.1 HS1.out.2.1
              rw [HZ1.out] at hcr
              have HCR := Lib.hid hcr
              clear hcr A
              go_wp2_with ((go_at_call 72; with_reducible refine (HCR.out).mono ?_); rintro ee w1 ⟨rfl, d2, hr1, hp⟩)
              go_meet
              case rel => exact ⟨d2, hr1, hp⟩
            · have HA := Lib.hid (of_decide_eq_false hbb.out.symm)
              go_wp2_with fail
              go_meet
              case rel => exact ⟨d1, hr, part_left_nil e2 e6 (by have := HA.out; omega)⟩
           case rest =>
            clear hr
            obtain ⟨d2, hr, hp⟩ := hcut
            have HZ2 := Lib.hid (hp.out.size.trans HZ1.out)
            have HF : Hid (∀ d3, Part mid b d2 d3 (merge (ltOf cf) (seg d2.toList mid e) (seg d2.toList e b)) → Part a b d d3 (merge (ltOf cf) (seg d.toList a m) (seg d.toList m b))) := fun d3 hq =>
              sym_whole HWK.out h3 e2 e3 e4 e5 HE1.out HL.out HRT.out HLO.out HHI.out hrot.out hp.out hq
            have HS2 : Hid (Sorted (ltOf cf) (seg d2.toList mid e) ∧ Sorted (ltOf cf) (seg d2.toList e b)) := by
              have hz := HZ1.out
              have f1 := hp.out.far (i := mid) (j := e) (.inr (Nat.le_refl _)) (by omega)
              have f2 := hp.out.far (i := e) (j := b) (.inr e7) (by omega)
              show _ ∧ _
              rw [f1, f2]
              exact ⟨HS1.out.2.2.1, HS1.out.2.2.2⟩
            by_cases A : mid < e
            · have Az : (mid : Int) < (e : Int) := by omega
              by_cases B : e < b
              · have Bz : (e : Int) < (b : Int) := by omega
                have hcr := hIH.out mid e b d2 wc (by omega) hr A B (by rw [HZ2.out]; omega) HZ2.out HS2.out.1 HS2.out.2
                rw [HZ2.out] at hcr
                have HCR := Lib.hid hcr
                clear hcr
                go_wp2_with ((go_at_call 72; with_reducible refine (HCR.out).mono ?_); rintro ee w1 ⟨rfl, d3, hr1, hq⟩)
                go_end0
                exact ⟨rfl, d3, hr1, HF.out d3 hq⟩
              · have Bz : ¬ (e : Int) < (b : Int) := by omega
                go_wp2_with fail
                go_end0
                exact ⟨rfl, d2, hr, HF.out d2 (part_left_nil e7 e5 (.inr (by omega)))⟩
            · have Az : ¬ (mid : Int) < (e : Int) := by omega
              go_wp2_with fail
              go_end0
              exact ⟨rfl, d2, hr, HF.out d2 (part_left_nil e7 e5 (.inl (by omega)))⟩
theorem symAnyTy (W0 : World) (cf : V4 → V4 → Int) (hC : ∀ (x y : V4) (X : World), FmTy x → FmTy y → Calls Tryd.prog 55 #[x.agg, y.agg] X fun e w' => e = .returned (.int .i64 (cf x y)) ∧ Below X.heap.size X w') (hw : Weak (ltOf cf)) : ∀ (N a m b : Nat) (d : Array V4) (W : World), b - a ≤ N → Row FmTy W0 W blk 24 tl d → off = 0 → a < m → m < b → b ≤ d.size → d.size < 4611686018427387904 → Sorted (ltOf cf) (seg d.toList a m) → Sorted (ltOf cf) (seg d.toList m b) →
    Calls Tryd.prog 72 #[.slice (some ⟨blk, off, none⟩) d.size cap, .int .i64 a, .int .i64 m, .int .i64 b, .func (.func 55) #[] #[]] W (SymPostTy W0 blk tl (ltOf cf) d a m b)
  | 0, a, m, b, d, W, hN, hR, ho, h1, h2, h3, hs, hL, hRt => by omega
  | N + 1, a, m, b, d, W, hN, hR, ho, h1, h2, h3, hs, hL, hRt => by
    by_cases c1 : m = a + 1
    · exact symLeftTy W0 cf hC hw a m b hR ho c1 h2 h3 hs hL hRt
    · by_cases c2 : b = m + 1
      · exact symRightTy W0 cf hC hw a m b hR ho c2 (by omega) h3 hs hL hRt
      · exact symBigTy W0 cf hC hw a m b hR ho (by omega) (by omega) h3 hs hL hRt
          (fun a' m' b' d' W' g0 g1 g2 g3 g4 g5 g6 g7 => symAnyTy W0 cf hC hw N a' m' b' d' W' (by omega) g1 ho g2 g3 g4 (by omega) g6 g7)
end
end Go.Proofs.YtdljlpogljjldaaDoor
