/- The parser: ShelfSrc, SrcLib, SrcWalk. -/
import Derived.Test.YtcjoapmodaioiaaGreatDoorShelfLex
import Derived.Test.YtcjoapmodaioiaaGreatDoorMLexA
import Derived.Test.YtcjoapmodaioiaaGreatDoorStrClone
import Derived.Test.YtcjoapmodaioiaaGreatDoorSrcCheck
import Derived.Deep.QuietTactic
import Derived.BigQuiet
section

end

section
namespace Go.Proofs.YtcjoapmodaioiaaGreatDoor
open Go.RowKit Go.Shelf

def LB (s : ByteArray) : List ByteArray := Lib.splitB ⟨#[10]⟩ 0 (Lib.countB s ⟨#[10]⟩) s
theorem countB_nl (s : ByteArray) : Lib.countB s ⟨#[10]⟩ = s.data.toList.count 10 := Lib.count_one 10 s.data.toList
theorem LB_lines (s : ByteArray) : (LB s).map (·.data.toList) = lines s.data.toList := by
  rw [LB, Lib.splitB_data, countB_nl]; rfl
theorem LB_length (s : ByteArray) : (LB s).length = s.data.toList.count 10 + 1 := by rw [← lines_length, ← LB_lines, List.length_map]
theorem LB_get {s : ByteArray} {k : Nat} {x : ByteArray} (h : (LB s)[k]? = some x) : (lines s.data.toList)[k]? = some x.data.toList := by
  rw [← LB_lines, List.getElem?_map, h]; rfl
theorem LB_size {s : ByteArray} {k : Nat} {x : ByteArray} (h : (LB s)[k]? = some x) : x.size ≤ s.size := by
  have := lines_le _ _ (List.mem_of_getElem? (LB_get h))
  rw [Lib.size_eq, Lib.size_eq]; exact this

set_option maxHeartbeats 1000000 in
theorem strSplit (s : ByteArray) (w : World) (hs : s.size < 4294967281) :
    Calls Tryz.prog 11 #[.string s, .string ⟨#[10]⟩] w fun e w' => ∃ g, e = .returned (.slice (some ⟨g, 0, none⟩) (LB s).length (LB s).length) ∧ w.heap.size ≤ g ∧
      (∀ (j : Nat) x, (LB s)[j]? = some x → w'.cell? ⟨g, j, none⟩ = some (.string x)) ∧ Below w.heap.size w w' := by
  have h1 : 1 ≤ (⟨#[10]⟩ : ByteArray).size := by decide
  have hle := Lib.countB_le ⟨#[10]⟩ h1 s.size s (Nat.le_refl _)
  have hlen : (LB s).length = Lib.countB s ⟨#[10]⟩ + 1 := Lib.splitB_all ⟨#[10]⟩ h1 0 _ s rfl
  have c := Any.strings_genSplit_core (ρ := Tryz.lays146_ren) { Tryz.lays146 with } (by kernel_rfl) s ⟨#[10]⟩ 0 (-1) (Lib.countB s ⟨#[10]⟩ + 1) w hs h1 (Nat.zero_le _)
    (fun x c _ => (Any.strings_Index_one (ρ := Tryz.lays146_ren) { Tryz.lays146 with } x 10 _).mono fun e w' ⟨he, hw⟩ => ⟨by rw [he]; show _ = Ending.returned (.int .i64 (Lib.index x.data.toList [10])); rw [index_nl], hw⟩)
    ((Any.strings_Count_one (ρ := Tryz.lays146_ren) { Tryz.lays146 with } s 10 w).mono fun e w' ⟨he, hw⟩ => ⟨by rw [he, countB_nl]; rfl, hw⟩) (by decide) (by decide) (by rw [if_pos (by decide)]; omega)
  rw [Nat.add_sub_cancel] at c
  change Calls Tryz.prog 25 #[.string s, .string ⟨#[10]⟩, .int .i64 0, .int .i64 (-1)] w (fun e w' => e = .returned (.slice (some ⟨w.heap.size, 0, none⟩) (LB s).length (Lib.countB s ⟨#[10]⟩ + 1)) ∧ w' = w.alloc (.cells (Lib.cellsOf (LB s) (Lib.countB s ⟨#[10]⟩ + 1)) 9)) at c
  rw [← hlen, Lib.cellsOf_full] at c
  have C := Lib.hid c
  clear c hlen hle
  go_enter Tryz.func11, Tryz.ntmps11
  go_wp2_with fail
  with_reducible refine C.out.mono ?_
  rintro e w' ⟨rfl, rfl⟩
  go_wp2
  go_ret
  refine ⟨_, rfl, Nat.le_refl _, fun j x hx => ?_, Below.alloc (Below.refl _ _) (Nat.le_refl _) _⟩
  have hj : j < (LB s).length := (List.getElem?_eq_some_iff.1 hx).1
  have hb : Blk (w.alloc (.cells ((LB s).map Value.string).toArray 9)) w.heap.size 9 ((LB s).map Value.string) := Blk.new _ _ _
  exact hb.cell (by rw [List.getElem?_map, hx]; rfl)
end Go.Proofs.YtcjoapmodaioiaaGreatDoor
end

section
namespace Go.Proofs.YtcjoapmodaioiaaGreatDoor
open Go.RowKit Go.Shelf

set_option maxHeartbeats 1000000 in
theorem line_in (s : ByteArray) (k : Nat) (x : ByteArray) (w : World) (hs : chk s = 0) (hx : (LB s)[k]? = some x) :
    Calls Tryz.prog 21 #[.string s, .int .i64 ((k : Int) + 1)] w fun e w' => e = .returned (.tuple #[.string x, .int .i64 0]) ∧ Below w.heap.size w w' := by
  have hz := chk_size hs
  have hxz := LB_size hx
  have hk : k < (LB s).length := (List.getElem?_eq_some_iff.1 hx).1
  have hle : (LB s).length ≤ 8193 := by
    rw [LB_length]; have := List.count_le_length (a := (10 : UInt8)) (l := s.data.toList); rw [← Lib.size_eq] at this; omega
  have HC := Lib.hid (check_any s w)
  rw [hs] at HC
  have HS := Lib.hid (fun (W : World) => strSplit s W (by omega))
  have HCl := Lib.hid (fun (W : World) => strClone x W (by omega))
  obtain ⟨n, hn⟩ : ∃ n, (LB s).length = n := ⟨_, rfl⟩
  rw [hn] at HS hk hle
  clear hn hs hz hxz
  have i1 : (k : Int) + 1 ≤ (n : Int) := by omega
  have i2 : ¬ (n : Int) < (k : Int) + 1 := by omega
  have i3 : (0 : Int) ≤ (k : Int) := by omega
  have i4 : (k : Int) < (n : Int) := by omega
  have i5 : (k : Int) ≤ 8193 := by omega
  go_enter Tryz.func21, Tryz.ntmps21
  go_wp2_with fail
  with_reducible refine HC.out.mono ?_
  rintro e w1 ⟨rfl, rfl⟩
  go_wp2_with fail
  with_reducible refine (HS.out _).mono ?_
  rintro e w1 ⟨g, rfl, hg, hcell, hb⟩
  have c0 := hcell k x hx
  clear hcell
  go_wp2_with fail
  with_reducible refine (HCl.out _).mono ?_
  rintro e w2 ⟨rfl, hb2⟩
  go_wp2_with fail
  go_ret2
  exact ⟨rfl, hb.trans (hb2.mono hb.size)⟩


set_option maxHeartbeats 1000000 in
theorem offset_in (s : ByteArray) (k c : Nat) (x : ByteArray) (w : World) (hs : chk s = 0) (hx : (LB s)[k]? = some x) (hc : c ≤ x.size) :
    Calls Tryz.prog 7 #[.string s, .int .i64 ((k : Int) + 1), .int .i64 ((c : Int) + 1)] w fun e w' =>
      e = .returned (.tuple #[.int .i64 ((start s.data.toList k : Int) + (c : Int)), .int .i64 0]) ∧ Below w.heap.size w w' := by
  have hz := chk_size hs
  have hxz := LB_size hx
  have hk : k < (LB s).length := (List.getElem?_eq_some_iff.1 hx).1
  have hle : (LB s).length ≤ 8193 := by
    rw [LB_length]; have := List.count_le_length (a := (10 : UInt8)) (l := s.data.toList); rw [← Lib.size_eq] at this; omega
  have HL := Lib.hid (line_in s k x w hs hx)
  have i1 : (c : Int) + 1 ≤ (x.size : Int) + 1 := by omega
  have i2 : ¬ (x.size : Int) + 1 < (c : Int) + 1 := by omega
  have i3 : ¬ (c : Int) + 1 < 1 := by omega
  have i4 : (x.size : Int) ≤ 8192 := by omega
  have d1 : decide ((c : Int) + 1 < 1) = false := by simp; omega
  have d2 : decide (x.size < c) = false := by simp; omega
  have d3 : decide ((x.size : Int) < (c : Int)) = false := by simp; omega
  have i5 : (k : Int) ≤ 8193 := by omega
  have i6 : (s.size : Int) ≤ 8192 := by omega
  clear hs hx hle
  go_enter Tryz.func7, Tryz.ntmps7
  go_wp2_with fail
  with_reducible refine HL.out.mono ?_
  rintro e w1 ⟨rfl, hb⟩
  go_wp2_with fail
  go_loopw [10, 33] (fun a i wr => ∃ j : Nat, j ≤ k ∧ i = .int .i64 j ∧ a = .int .i64 (start s.data.toList j : Nat) ∧ w1 = wr) (fun _ i _ => k - (intOf i).toNat)
  case atStart => exact ⟨0, Nat.zero_le _, rfl, rfl, rfl⟩
  case round =>
    obtain ⟨j, hj, rfl, rfl, rfl⟩ := hrel
    by_cases hlt : j < k
    · have hsl := start_le s.data.toList j
      rw [← Lib.size_eq] at hsl
      have hs1 := start_succ s.data.toList j
      have hge := Lib.indexByte_ge (s.data.toList.drop (start s.data.toList j)) 10
      have hsl1 := start_le s.data.toList (j + 1)
      rw [← Lib.size_eq] at hsl1
      obtain ⟨a, ha⟩ : ∃ a, start s.data.toList j = a := ⟨_, rfl⟩
      obtain ⟨a1, ha1⟩ : ∃ a1, start s.data.toList (j + 1) = a1 := ⟨_, rfl⟩
      rw [ha] at hsl hs1 hge
      rw [ha1] at hs1 hsl1
      obtain ⟨ix, hix⟩ : ∃ ix, Lib.indexByte (s.data.toList.drop a) 10 = ix := ⟨_, rfl⟩
      rw [hix] at hs1 hge
      have q0 : (j : Int) < (k : Int) := by omega
      have q1 : (0 : Int) ≤ (a : Int) := by omega
      have q2 : (a : Int) ≤ (s.size : Int) := by omega
      have q3 : (a : Int) + (ix + 1) ≤ 8192 := by omega
      have q4 : ix ≤ 8192 := by omega
      have hA1 := Lib.hid ha1
      have hS1 := Lib.hid hs1
      rw [ha]
      have HI := Lib.hid (fun (W : World) => (Tryz.strings_IndexByte (s.extract a s.size) 10 W).mono (R' := fun e w' => e = .returned (.int .i64 ix) ∧ w' = W) fun e w' ⟨he, hw⟩ =>
        ⟨by rw [he]; show Ending.returned (.int .i64 (Lib.indexByte (s.extract a s.size).data.toList 10)) = _; rw [Lib.extract_to_end, hix], hw⟩)
      clear hs1 ha1 ha hix
      go_wp2_with fail
      with_reducible refine (HI.out _).mono ?_
      rintro e w2 ⟨rfl, rfl⟩
      go_wp2_with fail
      go_roundw
      case rel => exact ⟨j + 1, by omega, by go_num, by rw [hA1.out]; congr 1; have := hS1.out; omega, by trivial⟩
      case measure => simp [intOf]; omega
    · have q0 : ¬ (j : Int) < (k : Int) := by omega
      obtain rfl : j = k := by omega
      have hsl := start_le s.data.toList j
      rw [← Lib.size_eq] at hsl
      obtain ⟨a, ha⟩ : ∃ a, start s.data.toList j = a := ⟨_, rfl⟩
      rw [ha] at hsl ⊢
      have hA := Lib.hid ha
      have q2 : (a : Int) ≤ (s.size : Int) := by omega
      have q3 : (a : Int) + ((c : Int) + 1) ≤ 20000 := by omega
      have q4 : (0 : Int) ≤ (a : Int) := by omega
      clear ha
      go_wp2_with fail
      go_ret2
      refine ⟨?_, hb⟩
      show Ending.returned (.tuple #[.int .i64 ((a : Int) + ((c : Int) + 1) - 1), .int .i64 0]) = _
      rw [show (a : Int) + ((c : Int) + 1) - 1 = (a : Int) + (c : Int) from by omega, hA.out]
end Go.Proofs.YtcjoapmodaioiaaGreatDoor
end
