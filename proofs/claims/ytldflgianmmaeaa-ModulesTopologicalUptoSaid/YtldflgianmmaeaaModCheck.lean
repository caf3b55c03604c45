/- modules.Check: what it answers. -/
import Derived.Test.YtldflgianmmaeaaModLib
namespace Go.Proofs.Ytldflgianmmaeaa
open Go.RowKit Go.Shelf

def dStrs (l : List ByteArray) : D := .sl (l.map dStr)
theorem dStrs.wide : Wide dStrs 1 := fun _ _ _ cs h => by
  unfold dStrs at h
  obtain ⟨v, rfl⟩ := rp_sl_one h
  rfl
theorem dStrs.get {w : World} {F : Nat → Prop} {L : List (List ByteArray)} {A : Option Addr} {n c : Nat} (h : Sl w F dStrs L (.slice A n c)) {i : Nat} (hi : i < L.length) :
    ∃ g off v, A = some ⟨g, off, none⟩ ∧ F g ∧ w.cell? ⟨g, off + i, none⟩ = some v ∧ Sl w F dStr L[i] v := by
  obtain ⟨g, off, cs, hA, hg, hr, _, hc⟩ := Sl.get h dStrs.wide hi
  unfold dStrs at hr
  obtain ⟨v, rfl⟩ := rp_sl_one hr
  exact ⟨g, off, v, hA, hg, by simpa using hc 0 _ rfl, hr⟩

/-- A repetition. -/
def dupF : List ByteArray → List ByteArray → Bool
  | _, [] => false
  | seen, x :: t => seen.any (fun y => decide (x = y)) || dupF (seen ++ [x]) t
def missB (N : List ByteArray) (l : List ByteArray) : Bool := l.any fun x => !(N.any fun y => decide (x = y))
def chkM (N : List ByteArray) (I : List (List ByteArray)) : Int :=
  if 16 < N.length then 2 else if I.length ≠ N.length then 3 else if dupF [] N = true then 7 else if I.any (missB N) = true then 6 else 0

theorem dup_step (N : List ByteArray) (k : Nat) (h : k < N.length) : dupF (N.take k) (N.drop k) = ((N.take k).any (fun y => decide (N[k] = y)) || dupF (N.take (k + 1)) (N.drop (k + 1))) := by
  rw [List.drop_eq_getElem_cons h, dupF, List.take_succ_eq_append_getElem h]
theorem any_step {α : Type} (f : α → Bool) (l : List α) (k : Nat) (h : k < l.length) : (l.drop k).any f = (f l[k] || (l.drop (k + 1)).any f) := by
  rw [List.drop_eq_getElem_cons h, List.any_cons]

set_option maxHeartbeats 1000000 in
theorem check_any (N : List ByteArray) (I : List (List ByteArray)) (nv iv : Value) (F : Nat → Prop) (w : World) (hN : Sl w F dStr N nv) (hI : Sl w F dStrs I iv) :
    Calls Try.prog 10 #[nv, iv] w fun e w' => e = .returned (.int .i64 (chkM N I)) ∧ w = w' := by
  obtain ⟨A, c, rfl, hlc, hcm, _⟩ := hN.form
  obtain ⟨B, c', rfl, hmc, hcm', _⟩ := hI.form
  have hl : N.length ≤ 9223372036854775807 := by unfold maxLen at hcm; omega
  have hm : I.length ≤ 9223372036854775807 := by unfold maxLen at hcm'; omega
  by_cases h16 : 16 < N.length
  · have i0 : (16 : Int) < (N.length : Int) := by omega
    have hc : chkM N I = 2 := by rw [chkM, if_pos h16]
    rw [hc]
    go_enter Try.func10, Try.ntmps10
    go_wp2
    go_ret
    exact ⟨rfl, rfl⟩
  · have i0 : ¬ (16 : Int) < (N.length : Int) := by omega
    have d0 : decide ((16 : Int) < (N.length : Int)) = false := decide_eq_false i0
    have d0' : decide (16 < N.length) = false := decide_eq_false h16
    by_cases hlen : I.length = N.length
    · have hd : ((I.length : Int) != (N.length : Int)) = false := by rw [bne_eq_false_iff_eq]; omega
      have HC : Hid (chkM N I = if dupF [] N = true then 7 else if I.any (missB N) = true then 6 else 0) := by
        rw [chkM, if_neg h16, if_neg (fun h => h hlen)]; exact rfl
      have hlen' := Lib.hid hlen
      have hIN : I.length ≤ 16 := by omega
      clear hlen
      go_enter Try.func10, Try.ntmps10
      go_wp2_with fail
      go_loopw [23] (fun i wr => ∃ k : Nat, k ≤ N.length ∧ i = .int .i64 k ∧ w = wr ∧ Hid (dupF [] N = dupF (N.take k) (N.drop k))) (fun i _ => N.length - (intOf i).toNat)
      case atStart => exact ⟨0, Nat.zero_le _, rfl, by trivial, rfl⟩
      case round =>
        obtain ⟨k, hk, rfl, rfl, hno⟩ := hrel
        by_cases hlt : k < N.length
        · obtain ⟨g, off, rfl, hF, c0, s0⟩ := dStr.get hN hlt
          have hst := Lib.hid (hno.out.trans (dup_step N k hlt))
          have HCo := Lib.hid (strContains (N.take k) N[k] _ F w (hN.take (Nat.le_of_lt hlt)))
          have k0 : (0 : Int) ≤ (k : Int) := by omega
          have k1 : (k : Int) < (N.length : Int) := by omega
          have k2 : (k : Int) ≤ (c : Int) := by omega
          cases hq : (N.take k).any (fun y => decide (N[k] = y))
          · rw [hq] at HCo hst
            have HE := Lib.hid hst.out
            clear hst hq
            go_wp2_with fail
            with_reducible refine HCo.out.mono ?_
            rintro e w1 ⟨rfl, rfl⟩
            go_wp2_with fail
            go_roundw
            case rel => exact ⟨k + 1, by omega, by go_num, by trivial, by rw [HE.out, Bool.false_or]; exact rfl⟩
            case measure => simp [intOf]; omega
          · rw [hq] at HCo hst
            have HE := Lib.hid hst.out
            clear hst hq
            go_wp2_with fail
            with_reducible refine HCo.out.mono ?_
            rintro e w1 ⟨rfl, rfl⟩
            go_wp2_with fail
            go_ret
            exact ⟨ret_int (by rw [HC.out, if_pos (by rw [HE.out, Bool.true_or])]), rfl⟩
        · have k1 : ¬ (k : Int) < (N.length : Int) := by omega
          have hdup : dupF [] N = false := by rw [hno.out, List.drop_eq_nil_of_le (by omega)]; rfl
          have HC2 := Lib.hid (HC.out.trans (by rw [if_neg (by rw [hdup]; decide)]))
          clear HC hno
          go_wp2_with fail
          go_loopw [36] (fun i wr => ∃ k : Nat, k ≤ I.length ∧ i = .int .i64 k ∧ w = wr ∧ Hid (I.any (missB N) = (I.drop k).any (missB N))) (fun i _ => I.length - (intOf i).toNat)
          case atStart => exact ⟨0, Nat.zero_le _, rfl, by trivial, rfl⟩
          case round =>
            obtain ⟨k, hk, rfl, rfl, hno⟩ := hrel
            by_cases hlt : k < I.length
            · obtain ⟨g, off, lv, rfl, hF, c0, hlv⟩ := dStrs.get hI hlt
              have hst := Lib.hid (hno.out.trans (any_step (missB N) I k hlt))
              have k0 : (0 : Int) ≤ (k : Int) := by omega
              have k1 : (k : Int) < (I.length : Int) := by omega
              obtain ⟨l, hl0⟩ : ∃ l, I[k] = l := ⟨_, rfl⟩
              rw [hl0] at hlv hst
              obtain ⟨C, cc, rfl, hlc2, hcm2, _⟩ := hlv.form
              have hll : l.length ≤ 9223372036854775807 := by unfold maxLen at hcm2; omega
              clear hl0
              go_wp2_with fail
              obtain ⟨wo, rfl⟩ : ∃ wo, wo = w := ⟨_, rfl⟩
              go_loopw [42] (fun i wr => ∃ j : Nat, j ≤ l.length ∧ i = .int .i64 j ∧ wo = wr ∧ Hid (missB N l = missB N (l.drop j))) (fun i _ => l.length - (intOf i).toNat)
              case atStart => exact ⟨0, Nat.zero_le _, rfl, by trivial, rfl⟩
              case round =>
                obtain ⟨j, hj, rfl, rfl, hni⟩ := hrel
                by_cases hlj : j < l.length
                · obtain ⟨g2, off2, rfl, _, e0, _⟩ := dStr.get hlv hlj
                  have hsj := Lib.hid (hni.out.trans (any_step (fun x => !(N.any fun y => decide (x = y))) l j hlj))
                  have HCo := Lib.hid (strContains N l[j] _ F wo hN)
                  have j0 : (0 : Int) ≤ (j : Int) := by omega
                  have j1 : (j : Int) < (l.length : Int) := by omega
                  cases hq : N.any (fun y => decide (l[j] = y))
                  · rw [hq] at HCo hsj
                    have HE := Lib.hid hsj.out
                    clear hsj hq
                    go_wp2_with fail
                    with_reducible refine HCo.out.mono ?_
                    rintro e w1 ⟨rfl, rfl⟩
                    go_wp2_with fail
                    go_ret
                    exact ⟨ret_int (by rw [HC2.out, if_pos (by rw [hst.out, HE.out, Bool.not_false, Bool.true_or, Bool.true_or])]), rfl⟩
                  · rw [hq] at HCo hsj
                    have HE := Lib.hid hsj.out
                    clear hsj hq
                    go_wp2_with fail
                    with_reducible refine HCo.out.mono ?_
                    rintro e w1 ⟨rfl, rfl⟩
                    go_wp2_with fail
                    go_roundw
                    case rel => exact ⟨j + 1, by omega, by go_num, by trivial, by rw [HE.out, Bool.not_true, Bool.false_or]; exact rfl⟩
                    case measure => simp [intOf]; omega
                · have j1 : ¬ (j : Int) < (l.length : Int) := by omega
                  have hz : missB N l = false := by rw [hni.out, List.drop_eq_nil_of_le (by omega)]; rfl
                  have HE := Lib.hid (hst.out.trans (by rw [hz, Bool.false_or]))
                  clear hst hni hz
                  go_wp2_with fail
                  go_roundw
                  case rel => exact ⟨k + 1, by omega, by go_num, by trivial, HE.out⟩
                  case measure => simp [intOf]; omega
            · have k1 : ¬ (k : Int) < (I.length : Int) := by omega
              have hz : I.any (missB N) = false := by rw [hno.out, List.drop_eq_nil_of_le (by omega)]; rfl
              have HE := Lib.hid (HC2.out.trans (by rw [if_neg (by rw [hz]; decide)]))
              clear hno hz HC2
              go_wp2_with fail
              go_ret
              exact ⟨ret_int HE.out.symm, rfl⟩
    · have hd : ((I.length : Int) != (N.length : Int)) = true := by rw [bne_iff_ne]; omega
      have hc : chkM N I = 3 := by rw [chkM, if_neg h16, if_pos hlen]
      rw [hc]
      go_enter Try.func10, Try.ntmps10
      go_wp2
      go_ret
      exact ⟨rfl, rfl⟩
end Go.Proofs.Ytldflgianmmaeaa
