/- source.Check: what it answers. -/
import Derived.Test.YtcjoapmodaioiaaGreatDoorRows
import Derived.Test.YtcjoapmodaioiaaGreatDoorBase
import Derived.Lib.Strings
namespace Go.Proofs.YtcjoapmodaioiaaGreatDoor
open Go.RowKit Go.Shelf

def okByte (c : UInt8) : Bool := c == 10 || (decide (32 ≤ c.toNat) && decide (c.toNat ≤ 126))
def chk (s : ByteArray) : Int := if 8192 < s.size then 2 else if s.data.toList.all okByte then 0 else 5
theorem chk_size {s : ByteArray} (h : chk s = 0) : s.size ≤ 8192 := by
  unfold chk at h
  split at h
  · simp at h
  · omega

set_option maxHeartbeats 1000000 in
theorem check_any (s : ByteArray) (w : World) :
    Calls Tryz.prog 34 #[.string s] w fun e w' => e = .returned (.int .i64 (chk s)) ∧ w = w' := by
  by_cases hbig : 8192 < s.size
  · have h1 : (8192 : Int) < (s.size : Int) := by omega
    have hc : chk s = 2 := by rw [chk, if_pos hbig]
    rw [hc]
    go_enter Tryz.func34, Tryz.ntmps34
    go_wp2
    go_ret
    exact ⟨rfl, rfl⟩
  · have h1 : ¬ (8192 : Int) < (s.size : Int) := by omega
    have h2 : (s.size : Int) ≤ 8192 := by omega
    have hc : Hid (chk s = if s.data.toList.all okByte then 0 else 5) := by rw [chk, if_neg hbig]; exact rfl
    go_enter Tryz.func34, Tryz.ntmps34
    go_wp2
    go_loopw [10] (fun i wr => ∃ k : Nat, k ≤ s.size ∧ i = .int .i64 k ∧ w = wr ∧ Hid (s.data.toList.all okByte = (s.data.toList.drop k).all okByte)) (fun i _ => s.size - (intOf i).toNat)
    case atStart => exact ⟨0, Nat.zero_le _, rfl, rfl, rfl⟩
    case round =>
      obtain ⟨k, hk, rfl, rfl, hall⟩ := hrel
      by_cases hlt : k < s.size
      · have i0 : (k : Int) < (s.size : Int) := by omega
        have i1 : (0 : Int) ≤ (k : Int) := by omega
        have hk' : k < s.data.toList.length := by rw [← Lib.size_eq]; exact hlt
        have hget : s.data.toList[k] = s[k] := by rw [Array.getElem_toList]; rfl
        have hstep : (s.data.toList.drop k).all okByte = (okByte s[k] && (s.data.toList.drop (k + 1)).all okByte) := by
          rw [List.drop_eq_getElem_cons hk', List.all_cons, hget]
        have hround : okByte s[k] = true → Hid (s.data.toList.all okByte = (s.data.toList.drop (k + 1)).all okByte) := fun h => by
          rw [hall.out, hstep, h, Bool.true_and]; exact rfl
        have hout : okByte s[k] = false → chk s = 5 := fun h => by
          rw [hc.out, hall.out, hstep, h]; rfl
        have hmeas : s.size - (intOf (Value.int .i64 ((k : Int) + 1))).toNat < s.size - (intOf (Value.int .i64 (k : Int))).toNat := by simp [intOf]; omega
        have hRound := Lib.hid hround
        have hOut := Lib.hid hout
        clear hround hout hstep hget
        obtain ⟨b, hb⟩ : ∃ b, s[k] = b := ⟨_, rfl⟩
        rw [hb] at hRound hOut
        by_cases h10 : b = 10
        · have f1 : ((s[k].toNat : Int) != 10) = false := by rw [hb, h10]; rfl
          have hr := Lib.hid (hRound.out (by rw [h10]; rfl))
          clear hb hRound hOut
          go_wp2_with fail
          go_roundw
          case rel => exact ⟨k + 1, by omega, by go_num, by trivial, hr.out⟩
          case measure => exact hmeas
        · have f1 : ((s[k].toNat : Int) != 10) = true := by
            rw [hb]; refine bne_iff_ne.2 fun e => h10 (UInt8.toNat_inj.1 ?_)
            rw [show (10 : UInt8).toNat = 10 from rfl]; omega
          by_cases h32 : b.toNat < 32
          · have f2 : decide ((s[k].toNat : Int) < 32) = true := by rw [hb]; simp; omega
            have hr := Lib.hid (hOut.out (by simp [okByte, h10]; omega))
            clear hb hRound hOut
            go_wp2_with fail
            go_ret
            exact ⟨by rw [hr.out]; rfl, rfl⟩
          · have f2 : decide ((s[k].toNat : Int) < 32) = false := by rw [hb]; simp; omega
            by_cases h126 : 126 < b.toNat
            · have f3 : decide ((126 : Int) < (s[k].toNat : Int)) = true := by rw [hb]; simp; omega
              have hr := Lib.hid (hOut.out (by simp [okByte, h10]; omega))
              clear hb hRound hOut
              go_wp2_with fail
              go_ret
              exact ⟨by rw [hr.out]; rfl, rfl⟩
            · have f3 : decide ((126 : Int) < (s[k].toNat : Int)) = false := by rw [hb]; simp; omega
              have hr := Lib.hid (hRound.out (by simp [okByte]; omega))
              clear hb hRound hOut
              go_wp2_with fail
              go_roundw
              case rel => exact ⟨k + 1, by omega, by go_num, by trivial, hr.out⟩
              case measure => exact hmeas
      · have i0 : ¬ (k : Int) < (s.size : Int) := by omega
        have hz : s.data.toList.drop k = [] := List.drop_eq_nil_of_le (by rw [← Lib.size_eq]; omega)
        go_wp2
        go_ret
        refine ⟨?_, rfl⟩
        rw [hc.out, hall.out, hz]; rfl

end Go.Proofs.YtcjoapmodaioiaaGreatDoor
