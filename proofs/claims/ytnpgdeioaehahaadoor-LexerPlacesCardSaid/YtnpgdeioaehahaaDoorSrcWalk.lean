/- The package source: what Check, Line, Offset and Place compute, at texts that Check accepts. -/
import Derived.Test.YtnpgdeioaehahaaDoorSrcLib
import Derived.Test.YtnpgdeioaehahaaDoorSrcCheck
import Derived.Deep.QuietTactic
import Derived.BigQuiet
namespace Go.Proofs.YtnpgdeioaehahaaDoor
open Go.RowKit Go.Shelf

set_option maxHeartbeats 1000000 in
/-- A line that is there. -/
theorem line_in (s : ByteArray) (k : Nat) (x : ByteArray) (w : World) (hs : chk s = 0) (hx : (LB s)[k]? = some x) :
    Calls Tryd.prog 20 #[.string s, .int .i64 ((k : Int) + 1)] w fun e w' => e = .returned (.tuple #[.string x, .int .i64 0]) ∧ Below w.heap.size w w' := by
  have hz := chk_size hs
  have hxz := LB_size hx
  have hk : k < (LB s).length := (List.getElem?_eq_some_iff.1 hx).1
  have hle : (LB s).length ≤ 8193 := by
    rw [LB_length]; have := List.count_le_length (a := (10 : UInt8)) (l := s.data.toList); rw [← Lib.size_eq] at this; omega
  have HC := Lib.hid (check_any s w)
  rw [hs] at HC
  have HS := Lib.hid (fun (W : World) => strSplit s W (by omega))
  have HCl := Lib.hid (fun (W : World) => strClone x W (by omega))
  obtain ⟨n, hn⟩ : ∃ n, (LB s).length = n := ⟨_, rfl⟩
  rw [hn] at HS hk hle
  clear hn hs hz hxz
  have i1 : (k : Int) + 1 ≤ (n : Int) := by omega
  have i2 : ¬ (n : Int) < (k : Int) + 1 := by omega
  have i3 : (0 : Int) ≤ (k : Int) := by omega
  have i4 : (k : Int) < (n : Int) := by omega
  have i5 : (k : Int) ≤ 8193 := by omega
  go_enter Tryd.func20, Tryd.ntmps20
  go_wp2_with fail
  with_reducible refine HC.out.mono ?_
  rintro e w1 ⟨rfl, rfl⟩
  go_wp2_with fail
  with_reducible refine (HS.out _).mono ?_
  rintro e w1 ⟨g, rfl, hg, hcell, hb⟩
  have c0 := hcell k x hx
  clear hcell
  go_wp2_with fail
  with_reducible refine (HCl.out _).mono ?_
  rintro e w2 ⟨rfl, hb2⟩
  go_wp2_with fail
  go_ret2
  exact ⟨rfl, hb.trans (hb2.mono hb.size)⟩

set_option maxHeartbeats 1000000 in
/-- A line that is not there. -/
theorem line_out (s : ByteArray) (w : World) (hs : chk s = 0) :
    Calls Tryd.prog 20 #[.string s, .int .i64 (((LB s).length : Nat) + 1 : Int)] w fun e w' => e = .returned (.tuple #[.string ⟨#[]⟩, .int .i64 4]) ∧ Below w.heap.size w w' := by
  have hz := chk_size hs
  have hle : (LB s).length ≤ 8193 := by
    rw [LB_length]; have := List.count_le_length (a := (10 : UInt8)) (l := s.data.toList); rw [← Lib.size_eq] at this; omega
  have HC := Lib.hid (check_any s w)
  rw [hs] at HC
  have HS := Lib.hid (fun (W : World) => strSplit s W (by omega))
  obtain ⟨n, hn⟩ : ∃ n, (LB s).length = n := ⟨_, rfl⟩
  rw [hn] at HS hle ⊢
  clear hn hs hz
  have i2 : (n : Int) < (n : Int) + 1 := by omega
  have i3 : ¬ (n : Int) + 1 < 1 := by omega
  have i5 : (n : Int) ≤ 8193 := by omega
  go_enter Tryd.func20, Tryd.ntmps20
  go_wp2_with fail
  with_reducible refine HC.out.mono ?_
  rintro e w1 ⟨rfl, rfl⟩
  go_wp2_with fail
  with_reducible refine (HS.out _).mono ?_
  rintro e w1 ⟨g, rfl, hg, hcell, hb⟩
  clear hcell
  go_wp2_with fail
  go_ret2
  exact ⟨rfl, hb⟩

set_option maxHeartbeats 1000000 in
/-- The byte at a column of a line. -/
theorem offset_in (s : ByteArray) (k c : Nat) (x : ByteArray) (w : World) (hs : chk s = 0) (hx : (LB s)[k]? = some x) (hc : c ≤ x.size) :
    Calls Tryd.prog 7 #[.string s, .int .i64 ((k : Int) + 1), .int .i64 ((c : Int) + 1)] w fun e w' =>
      e = .returned (.tuple #[.int .i64 ((start s.data.toList k : Int) + (c : Int)), .int .i64 0]) ∧ Below w.heap.size w w' := by
  have hz := chk_size hs
  have hxz := LB_size hx
  have hk : k < (LB s).length := (List.getElem?_eq_some_iff.1 hx).1
  have hle : (LB s).length ≤ 8193 := by
    rw [LB_length]; have := List.count_le_length (a := (10 : UInt8)) (l := s.data.toList); rw [← Lib.size_eq] at this; omega
  have HL := Lib.hid (line_in s k x w hs hx)
  have i1 : (c : Int) + 1 ≤ (x.size : Int) + 1 := by omega
  have i2 : ¬ (x.size : Int) + 1 < (c : Int) + 1 := by omega
  have i3 : ¬ (c : Int) + 1 < 1 := by omega
  have i4 : (x.size : Int) ≤ 8192 := by omega
  have d1 : decide ((c : Int) + 1 < 1) = false := by simp; omega
  have d2 : decide (x.size < c) = false := by simp; omega
  have d3 : decide ((x.size : Int) < (c : Int)) = false := by simp; omega
  have i5 : (k : Int) ≤ 8193 := by omega
  have i6 : (s.size : Int) ≤ 8192 := by omega
  clear hs hx hle
  go_enter Tryd.func7, Tryd.ntmps7
  go_wp2_with fail
  with_reducible refine HL.out.mono ?_
  rintro e w1 ⟨rfl, hb⟩
  go_wp2_with fail
  go_loopw [10, 33] (fun a i wr => ∃ j : Nat, j ≤ k ∧ i = .int .i64 j ∧ a = .int .i64 (start s.data.toList j : Nat) ∧ w1 = wr) (fun _ i _ => k - (intOf i).toNat)
  case atStart => exact ⟨0, Nat.zero_le _, rfl, rfl, rfl⟩
  case round =>
    obtain ⟨j, hj, rfl, rfl, rfl⟩ := hrel
    by_cases hlt : j < k
    · have hsl := start_le s.data.toList j
      rw [← Lib.size_eq] at hsl
      have hs1 := start_succ s.data.toList j
      have hge := Lib.indexByte_ge (s.data.toList.drop (start s.data.toList j)) 10
      have hsl1 := start_le s.data.toList (j + 1)
      rw [← Lib.size_eq] at hsl1
      obtain ⟨a, ha⟩ : ∃ a, start s.data.toList j = a := ⟨_, rfl⟩
      obtain ⟨a1, ha1⟩ : ∃ a1, start s.data.toList (j + 1) = a1 := ⟨_, rfl⟩
      rw [ha] at hsl hs1 hge
      rw [ha1] at hs1 hsl1
      obtain ⟨ix, hix⟩ : ∃ ix, Lib.indexByte (s.data.toList.drop a) 10 = ix := ⟨_, rfl⟩
      rw [hix] at hs1 hge
      have q0 : (j : Int) < (k : Int) := by omega
      have q1 : (0 : Int) ≤ (a : Int) := by omega
      have q2 : (a : Int) ≤ (s.size : Int) := by omega
      have q3 : (a : Int) + (ix + 1) ≤ 8192 := by omega
      have q4 : ix ≤ 8192 := by omega
      have hA1 := Lib.hid ha1
      have hS1 := Lib.hid hs1
      rw [ha]
      have HI := Lib.hid (fun (W : World) => (Tryd.strings_IndexByte (s.extract a s.size) 10 W).mono (R' := fun e w' => e = .returned (.int .i64 ix) ∧ w' = W) fun e w' ⟨he, hw⟩ =>
        ⟨by rw [he]; show Ending.returned (.int .i64 (Lib.indexByte (s.extract a s.size).data.toList 10)) = _; rw [Lib.extract_to_end, hix], hw⟩)
      clear hs1 ha1 ha hix
      go_wp2_with fail
      with_reducible refine (HI.out _).mono ?_
      rintro e w2 ⟨rfl, rfl⟩
      go_wp2_with fail
      go_roundw
      case rel => exact ⟨j + 1, by omega, by go_num, by rw [hA1.out]; congr 1; have := hS1.out; omega, by trivial⟩
      case measure => simp [intOf]; omega
    · have q0 : ¬ (j : Int) < (k : Int) := by omega
      obtain rfl : j = k := by omega
      have hsl := start_le s.data.toList j
      rw [← Lib.size_eq] at hsl
      obtain ⟨a, ha⟩ : ∃ a, start s.data.toList j = a := ⟨_, rfl⟩
      rw [ha] at hsl ⊢
      have hA := Lib.hid ha
      have q2 : (a : Int) ≤ (s.size : Int) := by omega
      have q3 : (a : Int) + ((c : Int) + 1) ≤ 20000 := by omega
      have q4 : (0 : Int) ≤ (a : Int) := by omega
      clear ha
      go_wp2_with fail
      go_ret2
      refine ⟨?_, hb⟩
      show Ending.returned (.tuple #[.int .i64 ((a : Int) + ((c : Int) + 1) - 1), .int .i64 0]) = _
      rw [show (a : Int) + ((c : Int) + 1) - 1 = (a : Int) + (c : Int) from by omega, hA.out]
end Go.Proofs.YtnpgdeioaehahaaDoor
