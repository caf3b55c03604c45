/- slices.symMergeCmpFunc at provenance/api.Type: the two short cases. No conditions but bounds. -/
import Derived.Test.YtdljlpogljjldaaDoorStabDTy
namespace Go.Proofs.YtdljlpogljjldaaDoor
open Go.RowKit Go.Sort Stab
def SymPostTy (W0 : World) (blk : Nat) (tl : List Value) (less : V4 → V4 → Bool) (d : Array V4) (a m b : Nat) (e : Ending) (w' : World) : Prop :=
  e = .returned (.tuple #[]) ∧ ∃ d', Row FmTy W0 w' blk 24 tl d' ∧ Part a b d d' (merge less (seg d.toList a m) (seg d.toList m b))
section
variable {W : World} {blk cap off : Nat} {tl : List Value} {d : Array V4}
set_option maxRecDepth 100000 in
set_option maxHeartbeats 8000000 in
theorem symLeftTy (W0 : World) (cf : V4 → V4 → Int) (hC : ∀ (x y : V4) (X : World), FmTy x → FmTy y → Calls Tryd.prog 55 #[x.agg, y.agg] X fun e w' => e = .returned (.int .i64 (cf x y)) ∧ Below X.heap.size X w') (hw : Weak (ltOf cf)) (a m b : Nat) (hR : Row FmTy W0 W blk 24 tl d) (ho : off = 0) (h1 : m = a + 1) (h2 : m < b) (h3 : b ≤ d.size) (hs : d.size < 4611686018427387904) (hL : Sorted (ltOf cf) (seg d.toList a m)) (hRt : Sorted (ltOf cf) (seg d.toList m b)) :
    Calls Tryd.prog 72 #[.slice (some ⟨blk, off, none⟩) d.size cap, .int .i64 a, .int .i64 m, .int .i64 b, .func (.func 55) #[] #[]] W (SymPostTy W0 blk tl (ltOf cf) d a m b) := by
  have HR := Lib.hid hR
  have HO := Lib.hid ho
  have HC := Lib.hid hC
  have HWK := Lib.hid hw
  have HL := Lib.hid hL
  have HRT := Lib.hid hRt
  clear hR ho hC hw hL hRt
  have hb1 : (((m : Int) - (a : Int)) == 1) = true := by rw [beq_iff_eq]; omega
  have HM := Lib.hid h1
  have am : a < m := by omega
  clear h1
  go_enter Tryd.func72, Tryd.ntmps72
  go_wp2
  go_loopw [10, 11] (fun si sj wr => ∃ i j : Nat, si = .int .i64 i ∧ sj = .int .i64 j ∧ m ≤ i ∧ i ≤ j ∧ j ≤ b ∧ Row FmTy W0 wr blk 24 tl d ∧ Hid (∀ k, m ≤ k → k < i → ltOf cf d[k]! d[a]! = true) ∧ Hid (∀ k, j ≤ k → k < b → ltOf cf d[k]! d[a]! = false)) (fun si sj _ => (intOf sj - intOf si).toNat)
  case atStart => exact ⟨m, b, rfl, rfl, Nat.le_refl _, by omega, Nat.le_refl _, HR.out, fun k k1 k2 => by omega, fun k k1 k2 => by omega⟩
  case round =>
    obtain ⟨i, j, rfl, rfl, hmi, hij, hjb, hr, hlo, hhi⟩ := hrel
    by_cases hlt : i < j
    · obtain ⟨h, hh⟩ : ∃ h : Nat, ((i : Int) + (j : Int)) / 2 = (h : Int) := ⟨(i + j) / 2, by omega⟩
      have q1 : i ≤ h := by omega
      have q2 : h < j := by omega
      have q3 : (h : Int) < (d.size : Int) := by omega
      have q4 : (0 : Int) ≤ (h : Int) := by omega
      have q5 : (0 : Int) ≤ (i : Int) + (j : Int) := by omega
      have hijz : (i : Int) < (j : Int) := by omega
      have hi : h < d.size := by omega
      have hj : a < d.size := by omega
      obtain ⟨x, hx⟩ : ∃ x, d[h]! = x := ⟨_, rfl⟩
      obtain ⟨y, hy⟩ : ∃ y, d[a]! = y := ⟨_, rfl⟩
      have hfx : FmTy x := hx ▸ hr.one _ hi
      have hfy : FmTy y := hy ▸ hr.one _ hj
      obtain ⟨p0, p1, p2, p3⟩ := hr.at_ hi hx HO.out
      obtain ⟨q0, q1, q2, q3⟩ := hr.at_ hj hy HO.out
      obtain ⟨c, hc⟩ : ∃ c, cf x y = c := ⟨_, rfl⟩
      have hcall : ∀ X, Below wr.heap.size wr X → Calls Tryd.prog 55 #[x.agg, y.agg] X fun e w' => e = .returned (.int .i64 c) ∧ Below wr.heap.size wr w' := fun X hb => (HC.out x y X hfx hfy).mono fun e w' ⟨he, hb'⟩ => ⟨hc ▸ he, hb.trans (hb'.mono hb.size)⟩
      have hless : ltOf cf d[h]! d[a]! = decide (c < 0) := by unfold ltOf; rw [hx, hy, hc]
      have HLESS := Lib.hid hless
      obtain ⟨xa, xb, xc, xd, xe, xf, rfl⟩ := hfx
      obtain ⟨ya, yb, yc, yd, ye, yf, rfl⟩ := hfy
      unfold V4.agg at hcall
      dsimp only at p0 p1 p2 p3 q0 q1 q2 q3 hcall
      have HQ : Hid (∀ X, Below wr.heap.size wr X → (X.cell? ⟨blk, off + h * 4, none⟩ = some (.int .i64 xa) ∧ X.cell? ⟨blk, off + h * 4 + 1, none⟩ = some (.string xb) ∧ X.cell? ⟨blk, off + h * 4 + 2, none⟩ = some (.int .i64 xc) ∧ X.cell? ⟨blk, off + h * 4 + 3, none⟩ = some (.slice xd xe xf) ∧ X.cell? ⟨blk, off + a * 4, none⟩ = some (.int .i64 ya) ∧ X.cell? ⟨blk, off + a * 4 + 1, none⟩ = some (.string yb) ∧ X.cell? ⟨blk, off + a * 4 + 2, none⟩ = some (.int .i64 yc) ∧ X.cell? ⟨blk, off + a * 4 + 3, none⟩ = some (.slice yd ye yf))) := fun X hb =>
        ⟨(hb.cell (block_lt_of_cell p0)).trans p0, (hb.cell (block_lt_of_cell p1)).trans p1, (hb.cell (block_lt_of_cell p2)).trans p2, (hb.cell (block_lt_of_cell p3)).trans p3, (hb.cell (block_lt_of_cell q0)).trans q0, (hb.cell (block_lt_of_cell q1)).trans q1, (hb.cell (block_lt_of_cell q2)).trans q2, (hb.cell (block_lt_of_cell q3)).trans q3⟩
      have HCALL := Lib.hid hcall
      have HX := Lib.hid hx
      have HY := Lib.hid hy
      clear hcall hx hy hc hless p0 p1 p2 p3 q0 q1 q2 q3
      have b1 : (a : Int) < (d.size : Int) := by omega
      have b2 : (0 : Int) ≤ (a : Int) := by omega
      clear hi hj
      by_cases hlv : c < 0
      · have hd : decide (c < 0) = true := decide_eq_true hlv
        have HLO : Hid (∀ k, m ≤ k → k < h + 1 → ltOf cf d[k]! d[a]! = true) := bs1_lo HWK.out HRT.out h3 (by omega) (HLESS.out.trans hd)
        go_wp2_with fail
        go_region_held3 (fun X => X.cell? ⟨blk, off + h * 4, none⟩ = some (.int .i64 xa) ∧ X.cell? ⟨blk, off + h * 4 + 1, none⟩ = some (.string xb) ∧ X.cell? ⟨blk, off + h * 4 + 2, none⟩ = some (.int .i64 xc) ∧ X.cell? ⟨blk, off + h * 4 + 3, none⟩ = some (.slice xd xe xf) ∧ X.cell? ⟨blk, off + a * 4, none⟩ = some (.int .i64 ya) ∧ X.cell? ⟨blk, off + a * 4 + 1, none⟩ = some (.string yb) ∧ X.cell? ⟨blk, off + a * 4 + 2, none⟩ = some (.int .i64 yc) ∧ X.cell? ⟨blk, off + a * 4 + 3, none⟩ = some (.slice yd ye yf))
          (exact HQ.out _ (by repeat (first | (with_reducible assumption) | (with_reducible exact Below.refl _ _) | (with_reducible refine Below.drewN ?_ _) | (with_reducible refine Below.drew ?_) | with_reducible refine Below.setCell ?_ (by first | exact Nat.le_refl _ | (simp; done) | (simp; omega)) _ | with_reducible refine Below.alloc ?_ (by first | exact Nat.le_refl _ | omega | (simp; done) | (simp; omega)) _)))
          ((go_at_call 55; with_reducible refine (HCALL.out _ (by repeat (first | (with_reducible assumption) | (with_reducible exact Below.refl _ _) | (with_reducible refine Below.drewN ?_ _) | (with_reducible refine Below.drew ?_) | with_reducible refine Below.setCell ?_ (by first | exact Nat.le_refl _ | (simp; done) | (simp; omega)) _ | with_reducible refine Below.alloc ?_ (by first | exact Nat.le_refl _ | omega | (simp; done) | (simp; omega)) _))).mono ?_; rintro e w1 ⟨rfl, hb1⟩))
        go_wp2_with fail
        go_roundw
        case rel => exact ⟨h + 1, j, by go_num, rfl, by omega, by omega, hjb, (by first | exact hr.later hb1 | exact (hr.later hb1).drew | exact (hr.drew).later hb1), HLO, hhi⟩
        case measure => simp [intOf]; omega
      · have hd : decide (c < 0) = false := decide_eq_false hlv
        have HHI : Hid (∀ k, h ≤ k → k < b → ltOf cf d[k]! d[a]! = false) := bs1_hi HWK.out HRT.out h3 (by omega) (HLESS.out.trans hd)
        go_wp2_with fail
        go_region_held3 (fun X => X.cell? ⟨blk, off + h * 4, none⟩ = some (.int .i64 xa) ∧ X.cell? ⟨blk, off + h * 4 + 1, none⟩ = some (.string xb) ∧ X.cell? ⟨blk, off + h * 4 + 2, none⟩ = some (.int .i64 xc) ∧ X.cell? ⟨blk, off + h * 4 + 3, none⟩ = some (.slice xd xe xf) ∧ X.cell? ⟨blk, off + a * 4, none⟩ = some (.int .i64 ya) ∧ X.cell? ⟨blk, off + a * 4 + 1, none⟩ = some (.string yb) ∧ X.cell? ⟨blk, off + a * 4 + 2, none⟩ = some (.int .i64 yc) ∧ X.cell? ⟨blk, off + a * 4 + 3, none⟩ = some (.slice yd ye yf))
          (exact HQ.out _ (by repeat (first | (with_reducible assumption) | (with_reducible exact Below.refl _ _) | (with_reducible refine Below.drewN ?_ _) | (with_reducible refine Below.drew ?_) | with_reducible refine Below.setCell ?_ (by first | exact Nat.le_refl _ | (simp; done) | (simp; omega)) _ | with_reducible refine Below.alloc ?_ (by first | exact Nat.le_refl _ | omega | (simp; done) | (simp; omega)) _)))
          ((go_at_call 55; with_reducible refine (HCALL.out _ (by repeat (first | (with_reducible assumption) | (with_reducible exact Below.refl _ _) | (with_reducible refine Below.drewN ?_ _) | (with_reducible refine Below.drew ?_) | with_reducible refine Below.setCell ?_ (by first | exact Nat.le_refl _ | (simp; done) | (simp; omega)) _ | with_reducible refine Below.alloc ?_ (by first | exact Nat.le_refl _ | omega | (simp; done) | (simp; omega)) _))).mono ?_; rintro e w1 ⟨rfl, hb1⟩))
        go_wp2_with fail
        go_roundw
        case rel => exact ⟨i, h, rfl, rfl, hmi, by omega, by omega, (by first | exact hr.later hb1 | exact (hr.later hb1).drew | exact (hr.drew).later hb1), hlo, HHI⟩
        case measure => simp [intOf]; omega
    · have hijz : ¬ (i : Int) < (j : Int) := by omega
      have hje : i = j := by omega
      have HF := Lib.hid (sym_one_left (less := ltOf cf) (d := d) (a := a) (b := b) (i := i) (by have := HM.out; omega) (by omega) h3 (fun k k1 k2 => hlo.out k (by have := HM.out; omega) k2) (fun k k1 k2 => hhi.out k (by omega) k2))
      have HJE := Lib.hid hje
      clear hje
      go_wp2
      go_loopw [13] (fun sk wr => ∃ k t : Nat, sk = .int .i64 k ∧ k + 1 ≤ i ∧ Hid (k = a + t) ∧ Row FmTy W0 wr blk 24 tl (upR a t d)) (fun sk _ => i - (intOf sk).toNat)
      case atStart => exact ⟨a, 0, rfl, by omega, rfl, hr⟩
      case round =>
        clear hr
        obtain ⟨k, t, rfl, hki, hkt, hr⟩ := hrel
        by_cases hkl : k + 1 < i
        · have kz : (k : Int) < (i : Int) - 1 := by omega
          have hup := upR_at a d t (by have := hkt.out; omega)
          obtain ⟨dk, hdk⟩ : ∃ dk, upR a t d = dk := ⟨_, rfl⟩
          rw [hdk] at hr hup
          have hz := hup.1
          have hi : k < dk.size := by omega
          have hj : k + 1 < dk.size := by omega
          obtain ⟨x, hx⟩ : ∃ x, dk[k]! = x := ⟨_, rfl⟩
          obtain ⟨y, hy⟩ : ∃ y, dk[k + 1]! = y := ⟨_, rfl⟩
          obtain ⟨xa, xb, xc, xd, xe, xf, rfl⟩ := (hx ▸ hr.one _ hi : FmTy x)
          obtain ⟨ya, yb, yc, yd, ye, yf, rfl⟩ := (hy ▸ hr.one _ hj : FmTy y)
          obtain ⟨p0, p1, p2, p3⟩ := hr.at_ hi hx HO.out
          obtain ⟨q0, q1, q2, q3⟩ := hr.at_ hj hy HO.out
          dsimp only at p0 p1 p2 p3 q0 q1 q2 q3
          have f0 := hr.free (off + k * 4)
          have f1 := hr.free (off + k * 4 + 1)
          have f2 := hr.free (off + k * 4 + 2)
          have f3 := hr.free (off + k * 4 + 3)
          have g0 := hr.free (off + (k + 1) * 4)
          have g1 := hr.free (off + (k + 1) * 4 + 1)
          have g2 := hr.free (off + (k + 1) * 4 + 2)
          have g3 := hr.free (off + (k + 1) * 4 + 3)
          have HN := Lib.hid ((hr.swap hi hj hx hy HO.out).drew)
          dsimp only at HN
          clear hx hy
          have HD := Lib.hid hdk
          have b1 : (k : Int) < (d.size : Int) := by omega
          have b2 : (k : Int) + 1 < (d.size : Int) := by omega
          have b3 : (0 : Int) ≤ (k : Int) + 1 := by omega
          clear hr hdk hz hup hi hj
          go_wp2_with fail
          go_region
          all_goals go_wp2
          all_goals
            go_roundw
            case rel => exact ⟨k + 1, t + 1, by go_num, by omega, by have := hkt.out; show _ = _; omega, by
              have h := HN.out
              rw [← HD.out] at h
              have e := hkt.out
              subst e
              exact h⟩
            case measure => simp [intOf]; omega
        · have kz : ¬ (k : Int) < (i : Int) - 1 := by omega
          go_wp2
          go_end0
          refine ⟨rfl, _, hr, ?_⟩
          have e : t = i - 1 - a := by have := hkt.out; omega
          rw [e]
          have h := HF.out
          rw [← HM.out] at h
          exact h
set_option maxRecDepth 100000 in
set_option maxHeartbeats 8000000 in
theorem symRightTy (W0 : World) (cf : V4 → V4 → Int) (hC : ∀ (x y : V4) (X : World), FmTy x → FmTy y → Calls Tryd.prog 55 #[x.agg, y.agg] X fun e w' => e = .returned (.int .i64 (cf x y)) ∧ Below X.heap.size X w') (hw : Weak (ltOf cf)) (a m b : Nat) (hR : Row FmTy W0 W blk 24 tl d) (ho : off = 0) (h1 : b = m + 1) (h2 : a + 1 < m) (h3 : b ≤ d.size) (hs : d.size < 4611686018427387904) (hL : Sorted (ltOf cf) (seg d.toList a m)) (hRt : Sorted (ltOf cf) (seg d.toList m b)) :
    Calls Tryd.prog 72 #[.slice (some ⟨blk, off, none⟩) d.size cap, .int .i64 a, .int .i64 m, .int .i64 b, .func (.func 55) #[] #[]] W (SymPostTy W0 blk tl (ltOf cf) d a m b) := by
  have HR := Lib.hid hR
  have HO := Lib.hid ho
  have HC := Lib.hid hC
  have HWK := Lib.hid hw
  have HL := Lib.hid hL
  have HRT := Lib.hid hRt
  clear hR ho hC hw hL hRt
  have hb0 : (((m : Int) - (a : Int)) == 1) = false := by rw [beq_eq_false_iff_ne]; omega
  have hb1 : (((b : Int) - (m : Int)) == 1) = true := by rw [beq_iff_eq]; omega
  have HM := Lib.hid h1
  have am : m < b := by omega
  clear h1
  go_enter Tryd.func72, Tryd.ntmps72
  go_wp2
  go_loopw [14, 15] (fun si sj wr => ∃ i j : Nat, si = .int .i64 i ∧ sj = .int .i64 j ∧ a ≤ i ∧ i ≤ j ∧ j ≤ m ∧ Row FmTy W0 wr blk 24 tl d ∧ Hid (∀ k, a ≤ k → k < i → ltOf cf d[m]! d[k]! = false) ∧ Hid (∀ k, j ≤ k → k < m → ltOf cf d[m]! d[k]! = true)) (fun si sj _ => (intOf sj - intOf si).toNat)
  case atStart => exact ⟨a, m, rfl, rfl, Nat.le_refl _, by omega, Nat.le_refl _, HR.out, fun k k1 k2 => by omega, fun k k1 k2 => by omega⟩
  case round =>
    obtain ⟨i, j, rfl, rfl, hmi, hij, hjb, hr, hlo, hhi⟩ := hrel
    by_cases hlt : i < j
    · obtain ⟨h, hh⟩ : ∃ h : Nat, ((i : Int) + (j : Int)) / 2 = (h : Int) := ⟨(i + j) / 2, by omega⟩
      have q1 : i ≤ h := by omega
      have q2 : h < j := by omega
      have q3 : (h : Int) < (d.size : Int) := by omega
      have q4 : (0 : Int) ≤ (h : Int) := by omega
      have q5 : (0 : Int) ≤ (i : Int) + (j : Int) := by omega
      have hijz : (i : Int) < (j : Int) := by omega
      have hi : m < d.size := by omega
      have hj : h < d.size := by omega
      obtain ⟨x, hx⟩ : ∃ x, d[m]! = x := ⟨_, rfl⟩
      obtain ⟨y, hy⟩ : ∃ y, d[h]! = y := ⟨_, rfl⟩
      have hfx : FmTy x := hx ▸ hr.one _ hi
      have hfy : FmTy y := hy ▸ hr.one _ hj
      obtain ⟨p0, p1, p2, p3⟩ := hr.at_ hi hx HO.out
      obtain ⟨q0, q1, q2, q3⟩ := hr.at_ hj hy HO.out
      obtain ⟨c, hc⟩ : ∃ c, cf x y = c := ⟨_, rfl⟩
      have hcall : ∀ X, Below wr.heap.size wr X → Calls Tryd.prog 55 #[x.agg, y.agg] X fun e w' => e = .returned (.int .i64 c) ∧ Below wr.heap.size wr w' := fun X hb => (HC.out x y X hfx hfy).mono fun e w' ⟨he, hb'⟩ => ⟨hc ▸ he, hb.trans (hb'.mono hb.size)⟩
      have hless : ltOf cf d[m]! d[h]! = decide (c < 0) := by unfold ltOf; rw [hx, hy, hc]
      have HLESS := Lib.hid hless
      obtain ⟨xa, xb, xc, xd, xe, xf, rfl⟩ := hfx
      obtain ⟨ya, yb, yc, yd, ye, yf, rfl⟩ := hfy
      unfold V4.agg at hcall
      dsimp only at p0 p1 p2 p3 q0 q1 q2 q3 hcall
      have HQ : Hid (∀ X, Below wr.heap.size wr X → (X.cell? ⟨blk, off + m * 4, none⟩ = some (.int .i64 xa) ∧ X.cell? ⟨blk, off + m * 4 + 1, none⟩ = some (.string xb) ∧ X.cell? ⟨blk, off + m * 4 + 2, none⟩ = some (.int .i64 xc) ∧ X.cell? ⟨blk, off + m * 4 + 3, none⟩ = some (.slice xd xe xf) ∧ X.cell? ⟨blk, off + h * 4, none⟩ = some (.int .i64 ya) ∧ X.cell? ⟨blk, off + h * 4 + 1, none⟩ = some (.string yb) ∧ X.cell? ⟨blk, off + h * 4 + 2, none⟩ = some (.int .i64 yc) ∧ X.cell? ⟨blk, off + h * 4 + 3, none⟩ = some (.slice yd ye yf))) := fun X hb =>
        ⟨(hb.cell (block_lt_of_cell p0)).trans p0, (hb.cell (block_lt_of_cell p1)).trans p1, (hb.cell (block_lt_of_cell p2)).trans p2, (hb.cell (block_lt_of_cell p3)).trans p3, (hb.cell (block_lt_of_cell q0)).trans q0, (hb.cell (block_lt_of_cell q1)).trans q1, (hb.cell (block_lt_of_cell q2)).trans q2, (hb.cell (block_lt_of_cell q3)).trans q3⟩
      have HCALL := Lib.hid hcall
      have HX := Lib.hid hx
      have HY := Lib.hid hy
      clear hcall hx hy hc hless p0 p1 p2 p3 q0 q1 q2 q3
      have b1 : (m : Int) < (d.size : Int) := by omega
      have b2 : (0 : Int) ≤ (m : Int) := by omega
      clear hi hj
      by_cases hlv : c < 0
      · have hd : decide (c < 0) = true := decide_eq_true hlv
        have HHI : Hid (∀ k, h ≤ k → k < m → ltOf cf d[m]! d[k]! = true) := bs2_hi HWK.out HL.out (by omega) (by omega) (HLESS.out.trans hd)
        go_wp2_with fail
        go_region_held3 (fun X => X.cell? ⟨blk, off + m * 4, none⟩ = some (.int .i64 xa) ∧ X.cell? ⟨blk, off + m * 4 + 1, none⟩ = some (.string xb) ∧ X.cell? ⟨blk, off + m * 4 + 2, none⟩ = some (.int .i64 xc) ∧ X.cell? ⟨blk, off + m * 4 + 3, none⟩ = some (.slice xd xe xf) ∧ X.cell? ⟨blk, off + h * 4, none⟩ = some (.int .i64 ya) ∧ X.cell? ⟨blk, off + h * 4 + 1, none⟩ = some (.string yb) ∧ X.cell? ⟨blk, off + h * 4 + 2, none⟩ = some (.int .i64 yc) ∧ X.cell? ⟨blk, off + h * 4 + 3, none⟩ = some (.slice yd ye yf))
          (exact HQ.out _ (by repeat (first | (with_reducible assumption) | (with_reducible exact Below.refl _ _) | (with_reducible refine Below.drewN ?_ _) | (with_reducible refine Below.drew ?_) | with_reducible refine Below.setCell ?_ (by first | exact Nat.le_refl _ | (simp; done) | (simp; omega)) _ | with_reducible refine Below.alloc ?_ (by first | exact Nat.le_refl _ | omega | (simp; done) | (simp; omega)) _)))
          ((go_at_call 55; with_reducible refine (HCALL.out _ (by repeat (first | (with_reducible assumption) | (with_reducible exact Below.refl _ _) | (with_reducible refine Below.drewN ?_ _) | (with_reducible refine Below.drew ?_) | with_reducible refine Below.setCell ?_ (by first | exact Nat.le_refl _ | (simp; done) | (simp; omega)) _ | with_reducible refine Below.alloc ?_ (by first | exact Nat.le_refl _ | omega | (simp; done) | (simp; omega)) _))).mono ?_; rintro e w1 ⟨rfl, hb1⟩))
        go_wp2_with fail
        go_roundw
        case rel => exact ⟨i, h, rfl, rfl, hmi, by omega, by omega, (by first | exact hr.later hb1 | exact (hr.later hb1).drew | exact (hr.drew).later hb1), hlo, HHI⟩
        case measure => simp [intOf]; omega
      · have hd : decide (c < 0) = false := decide_eq_false hlv
        have HLO : Hid (∀ k, a ≤ k → k < h + 1 → ltOf cf d[m]! d[k]! = false) := bs2_lo HWK.out HL.out (by omega) (by omega) (HLESS.out.trans hd)
        go_wp2_with fail
        go_region_held3 (fun X => X.cell? ⟨blk, off + m * 4, none⟩ = some (.int .i64 xa) ∧ X.cell? ⟨blk, off + m * 4 + 1, none⟩ = some (.string xb) ∧ X.cell? ⟨blk, off + m * 4 + 2, none⟩ = some (.int .i64 xc) ∧ X.cell? ⟨blk, off + m * 4 + 3, none⟩ = some (.slice xd xe xf) ∧ X.cell? ⟨blk, off + h * 4, none⟩ = some (.int .i64 ya) ∧ X.cell? ⟨blk, off + h * 4 + 1, none⟩ = some (.string yb) ∧ X.cell? ⟨blk, off + h * 4 + 2, none⟩ = some (.int .i64 yc) ∧ X.cell? ⟨blk, off + h * 4 + 3, none⟩ = some (.slice yd ye yf))
          (exact HQ.out _ (by repeat (first | (with_reducible assumption) | (with_reducible exact Below.refl _ _) | (with_reducible refine Below.drewN ?_ _) | (with_reducible refine Below.drew ?_) | with_reducible refine Below.setCell ?_ (by first | exact Nat.le_refl _ | (simp; done) | (simp; omega)) _ | with_reducible refine Below.alloc ?_ (by first | exact Nat.le_refl _ | omega | (simp; done) | (simp; omega)) _)))
          ((go_at_call 55; with_reducible refine (HCALL.out _ (by repeat (first | (with_reducible assumption) | (with_reducible exact Below.refl _ _) | (with_reducible refine Below.drewN ?_ _) | (with_reducible refine Below.drew ?_) | with_reducible refine Below.setCell ?_ (by first | exact Nat.le_refl _ | (simp; done) | (simp; omega)) _ | with_reducible refine Below.alloc ?_ (by first | exact Nat.le_refl _ | omega | (simp; done) | (simp; omega)) _))).mono ?_; rintro e w1 ⟨rfl, hb1⟩))
        go_wp2_with fail
        go_roundw
        case rel => exact ⟨h + 1, j, by go_num, rfl, by omega, by omega, hjb, (by first | exact hr.later hb1 | exact (hr.later hb1).drew | exact (hr.drew).later hb1), HLO, hhi⟩
        case measure => simp [intOf]; omega
    · have hijz : ¬ (i : Int) < (j : Int) := by omega
      have hje : i = j := by omega
      have HF := Lib.hid (sym_one_right (less := ltOf cf) (d := d) (a := a) (m := m) (i := i) hmi (by omega) (by have := HM.out; omega) (fun k k1 k2 => hlo.out k k1 k2) (fun k k1 k2 => hhi.out k (by omega) k2))
      have HJE := Lib.hid hje
      clear hje
      go_wp2
      go_loopw [17] (fun sk wr => ∃ k t : Nat, sk = .int .i64 k ∧ i ≤ k ∧ k ≤ m ∧ Hid (k + t = m) ∧ Row FmTy W0 wr blk 24 tl (downR m t d)) (fun sk _ => (intOf sk).toNat)
      case atStart => exact ⟨m, 0, rfl, by omega, Nat.le_refl _, rfl, hr⟩
      case round =>
        clear hr
        obtain ⟨k, t, rfl, hik, hkm, hkt, hr⟩ := hrel
        by_cases hkl : i < k
        · have kz : (i : Int) < (k : Int) := by omega
          obtain ⟨kp, hkp⟩ : ∃ kp : Nat, (k : Int) - 1 = (kp : Int) := ⟨k - 1, by omega⟩
          have hup := downR_at m d (by omega) t (by have := hkt.out; omega)
          obtain ⟨dk, hdk⟩ : ∃ dk, downR m t d = dk := ⟨_, rfl⟩
          rw [hdk] at hr hup
          have hz := hup.1
          have hi : k < dk.size := by omega
          have hj : kp < dk.size := by omega
          obtain ⟨x, hx⟩ : ∃ x, dk[k]! = x := ⟨_, rfl⟩
          obtain ⟨y, hy⟩ : ∃ y, dk[kp]! = y := ⟨_, rfl⟩
          obtain ⟨xa, xb, xc, xd, xe, xf, rfl⟩ := (hx ▸ hr.one _ hi : FmTy x)
          obtain ⟨ya, yb, yc, yd, ye, yf, rfl⟩ := (hy ▸ hr.one _ hj : FmTy y)
          obtain ⟨p0, p1, p2, p3⟩ := hr.at_ hi hx HO.out
          obtain ⟨q0, q1, q2, q3⟩ := hr.at_ hj hy HO.out
          dsimp only at p0 p1 p2 p3 q0 q1 q2 q3
          have f0 := hr.free (off + k * 4)
          have f1 := hr.free (off + k * 4 + 1)
          have f2 := hr.free (off + k * 4 + 2)
          have f3 := hr.free (off + k * 4 + 3)
          have g0 := hr.free (off + kp * 4)
          have g1 := hr.free (off + kp * 4 + 1)
          have g2 := hr.free (off + kp * 4 + 2)
          have g3 := hr.free (off + kp * 4 + 3)
          have HN := Lib.hid ((hr.swap hi hj hx hy HO.out).drew)
          dsimp only at HN
          clear hx hy
          have HD := Lib.hid hdk
          have b1 : (k : Int) < (d.size : Int) := by omega
          have b2 : (kp : Int) < (d.size : Int) := by omega
          have b3 : (0 : Int) ≤ (kp : Int) := by omega
          have b4 : kp < k := by omega
          have hwp : IntKind.i64.wrap (kp : Int) = (kp : Int) := by rw [IntKind.wrap_i64]; omega
          clear hr hdk hz hup hi hj
          go_wp2_with fail
          go_region
          all_goals go_wp2
          all_goals
            go_roundw
            case rel => exact ⟨kp, t + 1, rfl, by omega, by omega, by have := hkt.out; show _ = _; omega, by
              have h := HN.out
              rw [← HD.out] at h
              have e := hkt.out
              have e1 : k = m - t := by omega
              have e2 : kp = m - t - 1 := by omega
              rw [e1, e2] at h ⊢
              exact h⟩
            case measure => simp [intOf]; omega
        · have kz : ¬ (i : Int) < (k : Int) := by omega
          go_wp2
          go_end0
          refine ⟨rfl, _, hr, ?_⟩
          have e : t = m - i := by have := hkt.out; omega
          rw [e]
          have h := HF.out
          rw [← HM.out] at h
          exact h
end
end Go.Proofs.YtdljlpogljjldaaDoor
