/- modules.Cycle: what it answers. -/
import Derived.Test.YtldflgianmmaeaaCycWalk
namespace Go.Proofs.Ytldflgianmmaeaa
open Go.RowKit Go.Shelf Go.Sort

/-- What Cycle's answer is. -/
def Cycled (N : List Bt) (I : List (List Bt)) (W : World) (e : Ending) (w' : World) : Prop :=
  Below W.heap.size W w' ∧ ((∃ x, x ≠ 0 ∧ chkM N I = x ∧ e = .returned (.tuple #[.slice none 0 0, .int .i64 x])) ∨
    (chkM N I = 0 ∧ cycP N I = none ∧ e = .returned (.tuple #[.slice none 0 0, .int .i64 12])) ∨
    ∃ c ad cap, chkM N I = 0 ∧ cycP N I = some c ∧ e = .returned (.tuple #[.slice (some ad) c.length cap, .int .i64 0]) ∧ Sl w' (· < w'.heap.size) dStr c (.slice (some ad) c.length cap))

set_option maxRecDepth 100000 in
set_option maxHeartbeats 4000000 in
theorem cycle_any (N : List Bt) (I : List (List Bt)) (nv iv : Value) (w : World) (hN : Sl w (· < w.heap.size) dStr N nv) (hI : Sl w (· < w.heap.size) dStrs I iv) (hT : total I ≤ 1048576) :
    Calls Try.prog 5 #[nv, iv] w (Cycled N I w) := by
  have HCk := Lib.hid (check_any N I nv iv _ w hN hI)
  obtain ⟨A, c, rfl, hlc, hcm, _⟩ := hN.form
  obtain ⟨B, c', rfl, hmc, hcm', _⟩ := hI.form
  by_cases hz : chkM N I = 0
  · have hok := okm hz
    have h16 := hok.small
    rw [hz] at HCk
    have HZ := Lib.hid hz
    have HVa := Lib.hid (values_any A N.length c w)
    have hba : Below w.heap.size w (w.alloc (.cells #[.slice A N.length c] 22)) := Below.alloc (Below.refl _ _) (Nat.le_refl _) _
    have HSo := Lib.hid (sorted_any N (.slice A N.length c) w.heap.size (w.alloc (.cells #[.slice A N.length c] 22)) (by
      have := (Blk.new w 22 [.slice A N.length c]).cell (i := 0) rfl
      exact this) ((hN.below (fun _ h => h) hba).mono (fun b hb => by simp; omega)) (by omega))
    have hNs := hN.sizes
    have hNl : (N.length : Int) ≤ 16 := by omega
    have hn1 := fun (W : World) => run_neq_slice_nil_any (P := Try.prog) W 22 9 none 0 0 0 0 Try.underlying22
    have hn2 := fun (W : World) (ad : Addr) (a b : Nat) => run_neq_slice_nil_any (P := Try.prog) W 22 9 (some ad) a b 0 0 Try.underlying22
    clear hz
    go_enter Try.func5, Try.ntmps5
    go_wp2_with fail
    with_reducible refine HCk.out.mono ?_
    rintro e w1 ⟨rfl, rfl⟩
    go_wp2_with fail
    with_reducible refine HVa.out.mono ?_
    rintro e w1 ⟨rfl, rfl⟩
    go_wp2_with fail
    with_reducible refine HSo.out.mono ?_
    rintro e w1 ⟨u, rfl, hown, hb1⟩
    have hbw1 : Below w.heap.size w w1 := hba.trans (hb1.mono hba.size)
    rw [← sortB_length N] at hown
    have hsrt : ∀ y ∈ sortB N, y ∈ N := fun y hy => mem_sortB.1 hy
    have hsl1 := sl_lt (own_strs hown (fun y hy => hNs y (hsrt y hy)))
    obtain ⟨L, hL⟩ : ∃ L, sortB N = L := ⟨_, rfl⟩
    have hLl : L.length ≤ 16 := by rw [← hL, sortB_length]; omega
    rw [hL] at hsl1 hsrt
    have HL := Lib.hid hL
    clear hL hown
    obtain ⟨A3, c5, rfl, _⟩ := hsl1.form
    have hN1 := (hN.below (fun _ h => h) hbw1).mono (fun b hb => Nat.lt_of_lt_of_le hb hbw1.size)
    have hI1 := (hI.below (fun _ h => h) hbw1).mono (fun b hb => Nat.lt_of_lt_of_le hb hbw1.size)
    go_wp2_with fail
    go_loopw [8] (fun i wr => ∃ sz : Nat, 1 ≤ sz ∧ sz ≤ N.length + 1 ∧ i = .int .i64 sz ∧ Keeps (fun _ => False) w1 wr ∧ Hid (cycP N I = cycF N I (N.length + 1 - sz) (sz - 1))) (fun i _ => N.length + 1 - (intOf i).toNat)
    case atStart => exact ⟨1, by omega, by omega, rfl, Keeps.refl _ _, rfl⟩
    case round =>
      obtain ⟨sz, hs1, hs2, rfl, hk, hno⟩ := hrel
      by_cases hlt : sz ≤ N.length
      · have hst : cycF N I (N.length + 1 - sz) (sz - 1) = (tryS N I (sz - 1) L).or (cycF N I (N.length + 1 - (sz + 1)) sz) := by
          rw [show N.length + 1 - sz = (N.length + 1 - (sz + 1)) + 1 by omega, cycF, HL.out, show sz - 1 + 1 = sz by omega]
        have HST := Lib.hid (hno.out.trans hst)
        have q0 : (1 : Int) ≤ (sz : Int) := by omega
        have q1 : (sz : Int) ≤ (N.length : Int) := by omega
        have hsz16 : sz ≤ 16 := by omega
        have HLT := Lib.hid hlt
        have HS2 := Lib.hid hs2
        clear hst hno hs2 hlt
        go_wp2_with fail
        obtain ⟨wo, rfl⟩ : ∃ wo, wo = wr := ⟨_, rfl⟩
        go_loopw [29] (fun i wi => ∃ q : Nat, q ≤ L.length ∧ i = .int .i64 q ∧ Keeps (fun _ => False) w1 wi ∧ Hid (cycP N I = (tryS N I (sz - 1) (L.drop q)).or (cycF N I (N.length + 1 - (sz + 1)) sz))) (fun i _ => L.length - (intOf i).toNat)
        case atStart => exact ⟨0, Nat.zero_le _, rfl, hk, HST.out⟩
        case round =>
          obtain ⟨q, hq, rfl, hki, hni⟩ := hrel
          by_cases hql : q < L.length
          · obtain ⟨g5, off5, rfl, _, e0, e9⟩ := dStr.get (hsl1.keeps hki (fun _ _ h => h)) hql
            have hst : tryS N I (sz - 1) (L.drop q) = (walkP N I (sz - 1) [L[q]]).or (tryS N I (sz - 1) (L.drop (q + 1))) := by
              rw [List.drop_eq_getElem_cons hql, tryS]
            have hmN := hsrt _ (List.getElem_mem hql)
            obtain ⟨m, hm⟩ : ∃ m, L[q] = m := ⟨_, rfl⟩
            rw [hm] at e0 hst hmN e9
            have r0 : (0 : Int) ≤ (q : Int) := by omega
            have r1 : (q : Int) < (L.length : Int) := by omega
            have HNI := Lib.hid (hni.out.trans (by rw [hst]))
            have hka : Keeps (fun _ => False) w1 (wr.alloc (.cells #[.string m] 9)) := hki.alloc _
            have hsa : Sl (wr.alloc (.cells #[.string m] 9)) (· < (wr.alloc (.cells #[.string m] 9)).heap.size) dStr [m] (.slice (some ⟨wr.heap.size, 0, none⟩) 1 1) :=
              sl_blk (l := [m]) (Blk.new wr 9 [_]) (by simpa using e9) (by simp [maxLen]) _ (by simp)
            have HW := Lib.hid (walk_any N I _ _ hok hT (sz - 1) [m] _ sz _ ((hN1.keeps hka (fun _ _ h => h)).mono (fun b hb => Nat.lt_of_lt_of_le hb hka.size)) ((hI1.keeps hka (fun _ _ h => h)).mono (fun b hb => Nat.lt_of_lt_of_le hb hka.size)) hsa (by simp) (by simpa using hmN) (by simp; omega) hsz16)
            clear hm hst hni hsa
            go_wp2_with fail
            with_reducible refine HW.out.mono ?_
            rintro e w5 ⟨hb5, ⟨hr5, rfl⟩ | ⟨c6, ad, cap6, hr5, rfl, hs5⟩⟩
            · have HST2 := Lib.hid (HNI.out.trans (by rw [hr5, Option.none_or]))
              have hk5 : Keeps (fun _ => False) w1 w5 := hka.trans (Keeps.of_below (X := fun _ => False) hb5) (fun _ _ h => h)
              clear hr5
              go_wp2_with fail
              go_roundw
              case rel => exact ⟨q + 1, by omega, by go_num, hk5, HST2.out⟩
              case measure => simp [intOf]; omega
            · have HST2 := Lib.hid (HNI.out.trans (by rw [hr5, Option.some_or, Option.some_or]))
              have hk5 : Keeps (fun _ => False) w1 w5 := hka.trans (Keeps.of_below (X := fun _ => False) hb5) (fun _ _ h => h)
              clear hr5
              go_wp2_with fail
              go_ret2
              exact ⟨hbw1.trans (hk5.below (fun _ h => h.elim) hbw1.size), .inr (.inr ⟨c6, ad, cap6, HZ.out, HST2.out, rfl, hs5⟩)⟩
          · obtain rfl : q = L.length := by omega
            have r1 : ¬ (L.length : Int) < (L.length : Int) := by omega
            have HE := Lib.hid (hni.out.trans (by rw [List.drop_length, tryS, Option.none_or]))
            go_wp2_with fail
            go_roundw
            case rel => exact ⟨sz + 1, by omega, by have := HLT.out; omega, by go_num, hki, HE.out⟩
            case measure => have := HLT.out; simp [intOf]; omega
      · obtain rfl : sz = N.length + 1 := by omega
        have q1 : ¬ (N.length : Int) + 1 ≤ (N.length : Int) := by omega
        have HE := Lib.hid (hno.out.trans (by rw [Nat.sub_self, cycF]))
        go_wp2_with fail
        go_ret2
        exact ⟨hbw1.trans (hk.below (fun _ h => h.elim) hbw1.size), .inr (.inl ⟨HZ.out, HE.out, rfl⟩)⟩
  · have hne : (chkM N I != 0) = true := bne_iff_ne.2 hz
    obtain ⟨x, hx⟩ : ∃ x, chkM N I = x := ⟨_, rfl⟩
    have HX := Lib.hid hx
    rw [hx] at HCk hne hz
    clear hx
    go_enter Try.func5, Try.ntmps5
    go_wp2_with fail
    with_reducible refine HCk.out.mono ?_
    rintro e w1 ⟨rfl, rfl⟩
    go_wp2_with fail
    go_ret2
    exact ⟨Below.refl _ _, .inl ⟨x, hz, HX.out, rfl⟩⟩
end Go.Proofs.Ytldflgianmmaeaa
