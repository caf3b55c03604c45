/- run: the longest string of bytes of a class. Keyword. Trim of dashes. -/
import Derived.Test.YtnpgdeioaehahaaDoorLexSt
namespace Go.Proofs.YtnpgdeioaehahaaDoor
open Go.RowKit Go.Shelf

theorem tw_step (pr : UInt8 → Bool) (l : Bs) (k : Nat) (h : k < l.length) : ((l.drop k).takeWhile pr).length = if pr l[k] then 1 + ((l.drop (k + 1)).takeWhile pr).length else 0 := by
  rw [List.drop_eq_getElem_cons h, List.takeWhile_cons]
  split
  · simp only [List.length_cons]; omega
  · rfl

set_option maxHeartbeats 1000000 in
theorem run_any (W : World) (p : Nat) (s : ByteArray) (a : Nat) (v2 v3 v4 v5 : Value) (h : Blk W p 46 [.string s, .int .i64 a, v2, v3, v4, v5]) (ha : a ≤ s.size) (hs : s.size ≤ 8192)
    (m : FuncId) (pr : UInt8 → Bool) (eg : Enters Tryd.prog m) (hm : ∀ (c : UInt8) (W : World), Calls Tryd.prog m #[.int .u8 (c.toNat : Int)] W fun e w' => e = .returned (.bool (pr c)) ∧ W = w') :
    Calls Tryd.prog 37 #[.pointer (some ⟨p, 0, none⟩), .func (.func m) #[] #[]] W fun e w' =>
      e = .returned (.string (s.extract a (a + ((s.data.toList.drop a).takeWhile pr).length))) ∧ Keeps (fun _ => False) W w' := by
  have e0 := h.cell (i := 0) rfl
  have e1 := h.cell (i := 1) rfl
  have HM := Lib.hid hm
  clear hm
  unfold Enters at eg
  have hsl : s.data.toList.length = s.size := (Lib.size_eq s).symm
  have a1 : (a : Int) ≤ (s.size : Int) := by omega
  have a2 : (s.size : Int) ≤ 8192 := by omega
  go_enter Tryd.func37, Tryd.ntmps37
  go_wp2_with fail
  go_loopw [5] (fun i wr => ∃ j : Nat, a + j ≤ s.size ∧ i = .int .i64 ((a + j : Nat) : Int) ∧ W = wr ∧ Hid (((s.data.toList.drop a).takeWhile pr).length = j + ((s.data.toList.drop (a + j)).takeWhile pr).length)) (fun i _ => s.size - (intOf i).toNat)
  case atStart => exact ⟨0, by omega, by simp, rfl, by show _ = _; simp⟩
  case round =>
    obtain ⟨j, hj, rfl, rfl, hno⟩ := hrel
    obtain ⟨k, hk⟩ : ∃ k, a + j = k := ⟨_, rfl⟩
    rw [hk] at hj hno ⊢
    have hak : (a : Int) ≤ (k : Int) := by omega
    by_cases hlt : k < s.size
    · have k0 : (0 : Int) ≤ (k : Int) := by omega
      have k1 : (k : Int) < (s.size : Int) := by omega
      have hst := tw_step pr s.data.toList k (by omega)
      have hget : s.data.toList[k]'(by omega) = s[k] := by rw [Array.getElem_toList]; rfl
      rw [hget] at hst
      have HC := Lib.hid (HM.out s[k])
      cases hp : pr s[k]
      · rw [hp] at HC
        rw [hp, if_neg (by decide)] at hst
        have hE := Lib.hid (hno.out.trans (by rw [hst]; rfl) : ((s.data.toList.drop a).takeWhile pr).length = j)
        clear hst hget hp hno
        go_wp2_with fail
        refine (HC.out _).mono ?_
        rintro e w1 ⟨rfl, rfl⟩
        go_wp2_with fail
        go_quiet (fail)
        go_wp2_with fail
        go_ret
        exact ⟨by rw [hE.out, hk]; rfl, (Keeps.refl _ _).drewN _⟩
      · rw [hp] at HC
        rw [hp, if_pos rfl] at hst
        have hE := Lib.hid (hno.out.trans (by rw [hst]; omega) : ((s.data.toList.drop a).takeWhile pr).length = (j + 1) + ((s.data.toList.drop (k + 1)).takeWhile pr).length)
        clear hst hget hp hno
        go_wp2_with fail
        refine (HC.out _).mono ?_
        rintro e w1 ⟨rfl, rfl⟩
        go_wp2_with fail
        go_roundw
        case rel => exact ⟨j + 1, by omega, by congr 1; omega, by trivial, by rw [show a + (j + 1) = k + 1 by omega]; exact hE.out⟩
        case measure => simp [intOf]; omega
    · have k1 : ¬ (k : Int) < (s.size : Int) := by omega
      have hz : ((s.data.toList.drop a).takeWhile pr).length = j := by rw [hno.out, List.drop_eq_nil_of_le (by omega)]; rfl
      have hE := Lib.hid hz
      obtain rfl : k = s.size := by omega
      clear hz hno
      go_wp2_with fail
      go_quiet (fail)
      go_wp2_with fail
      go_ret
      exact ⟨by rw [hE.out, hk]; rfl, (Keeps.refl _ _).drewN _⟩

def kwBytes : ByteArray := ⟨#[32, 109, 111, 100, 117, 108, 101, 32, 105, 109, 112, 111, 114, 116, 32, 101, 120, 112, 111, 114, 116, 32, 100, 97, 116, 97, 32, 99, 108, 97, 115, 115, 32, 105, 110, 115, 116, 97, 110, 99, 101, 32, 101, 102, 102, 101, 99, 116, 32, 119, 104, 101, 114, 101, 32, 108, 101, 116, 32, 105, 110, 32, 105, 102, 32, 116, 104, 101, 110, 32, 101, 108, 115, 101, 32, 99, 97, 115, 101, 32, 111, 102, 32, 104, 97, 110, 100, 108, 101, 32, 119, 105, 116, 104, 32, 105, 110, 102, 105, 120, 108, 32, 105, 110, 102, 105, 120, 114, 32, 105, 110, 102, 105, 120, 32, 114, 101, 116, 117, 114, 110, 32, 32, 61, 32, 45, 62, 32, 61, 62, 32, 58, 32, 124, 32, 92, 32, 46, 32, 33, 32]⟩
/-- Is it a keyword or a reserved operator? -/
def kwB (u : Bs) : Bool := (!u.isEmpty) && !(decide (0 ≤ Lib.indexByte u 32)) && Lib.contains kwBytes.data.toList ([32] ++ u ++ [32])

set_option maxRecDepth 100000 in
set_option maxHeartbeats 1000000 in
theorem keyword_any (s : ByteArray) (W : World) (m : Int) (hm : W.cell? ⟨2, 0, none⟩ = some (.int .i64 m)) (hs : s.size ≤ 8192) :
    Calls Tryd.prog 68 #[.string s] W fun e w' => e = .returned (.bool (kwB s.data.toList)) ∧ W = w' := by
  have hk : kwB s.data.toList = ((!s.data.toList.isEmpty) && !(decide (0 ≤ Lib.indexByte s.data.toList 32)) && Lib.contains kwBytes.data.toList ([32] ++ s.data.toList ++ [32])) := rfl
  have HK := Lib.hid hk
  clear hk
  have hte : s.toList = s.data.toList := ByteArray.toList_eq s
  cases hE : s.data.toList.isEmpty
  · have hE' : s.toList.isEmpty = false := by rw [hte]; exact hE
    rw [hE] at HK
    cases hC : decide (0 ≤ Lib.indexByte s.data.toList 32)
    · rw [hC] at HK
      have H1 := Lib.hid (Tryd.strings_Contains_one s 32 W)
      rw [hC] at H1
      clear hC hE hte
      go_enter Tryd.func68, Tryd.ntmps68
      go_wp2_with fail
      with_reducible refine H1.out.mono ?_
      rintro e w1 ⟨rfl, rfl⟩
      go_wp2_with fail
      have hdata : (⟨#[32]⟩ ++ s ++ ⟨#[32]⟩ : ByteArray).data.toList = [32] ++ s.data.toList ++ [32] := by simp [ByteArray.data_append]
      refine ((Tryd.strings_Contains kwBytes (⟨#[32]⟩ ++ s ++ ⟨#[32]⟩) m w1 (by decide +kernel) hm).mono (R' := fun e w' => e = .returned (.bool (kwB s.data.toList)) ∧ w' = w1) fun e w' ⟨he, hw⟩ => ⟨by rw [he, hdata, HK.out]; rfl, hw⟩).mono ?_
      rintro e w2 ⟨rfl, rfl⟩
      go_wp2_with fail
      go_ret
      exact ⟨rfl, rfl⟩
    · rw [hC] at HK
      have H1 := Lib.hid (Tryd.strings_Contains_one s 32 W)
      rw [hC] at H1
      clear hC hE hte
      go_enter Tryd.func68, Tryd.ntmps68
      go_wp2_with fail
      with_reducible refine H1.out.mono ?_
      rintro e w1 ⟨rfl, rfl⟩
      go_wp2_with fail
      go_ret
      exact ⟨ret_bool (by rw [HK.out]; rfl), rfl⟩
  · have hE' : s.toList.isEmpty = true := by rw [hte]; exact hE
    rw [hE] at HK
    clear hE hte
    go_enter Tryd.func68, Tryd.ntmps68
    go_wp2_with fail
    go_ret
    exact ⟨ret_bool (by rw [HK.out]; rfl), rfl⟩
end Go.Proofs.YtnpgdeioaehahaaDoor
