/- The package source: what Check, Line, Offset and Place compute, at texts that Check accepts. -/
import Derived.Test.YteggjabfgffcfaaDoorSrcLib
import Derived.Deep.QuietTactic
import Derived.BigQuiet
namespace Go.Proofs.YteggjabfgffcfaaDoor
open Go.RowKit Go.Shelf

def okByte (c : UInt8) : Bool := c == 10 || (decide (32 ≤ c.toNat) && decide (c.toNat ≤ 126))
/-- What Check answers. -/
def chk (s : ByteArray) : Int := if 8192 < s.size then 2 else if s.data.toList.all okByte then 0 else 5
theorem chk_size {s : ByteArray} (h : chk s = 0) : s.size ≤ 8192 := by
  unfold chk at h
  split at h
  · simp at h
  · omega

set_option maxHeartbeats 1000000 in
theorem check_any (s : ByteArray) (w : World) :
    Calls Tryd.prog 6 #[.string s] w fun e w' => e = .returned (.int .i64 (chk s)) ∧ w = w' := by
  by_cases hbig : 8192 < s.size
  · have h1 : (8192 : Int) < (s.size : Int) := by omega
    have hc : chk s = 2 := by rw [chk, if_pos hbig]
    rw [hc]
    go_enter Tryd.func6, Tryd.ntmps6
    go_wp2
    go_ret
    exact ⟨rfl, rfl⟩
  · have h1 : ¬ (8192 : Int) < (s.size : Int) := by omega
    have h2 : (s.size : Int) ≤ 8192 := by omega
    have hc : Hid (chk s = if s.data.toList.all okByte then 0 else 5) := by rw [chk, if_neg hbig]; exact rfl
    go_enter Tryd.func6, Tryd.ntmps6
    go_wp2
    go_loopw [10] (fun i wr => ∃ k : Nat, k ≤ s.size ∧ i = .int .i64 k ∧ w = wr ∧ Hid (s.data.toList.all okByte = (s.data.toList.drop k).all okByte)) (fun i _ => s.size - (intOf i).toNat)
    case atStart => exact ⟨0, Nat.zero_le _, rfl, rfl, rfl⟩
    case round =>
      obtain ⟨k, hk, rfl, rfl, hall⟩ := hrel
      by_cases hlt : k < s.size
      · have i0 : (k : Int) < (s.size : Int) := by omega
        have i1 : (0 : Int) ≤ (k : Int) := by omega
        have hk' : k < s.data.toList.length := by rw [← Lib.size_eq]; exact hlt
        have hget : s.data.toList[k] = s[k] := by rw [Array.getElem_toList]; rfl
        have hstep : (s.data.toList.drop k).all okByte = (okByte s[k] && (s.data.toList.drop (k + 1)).all okByte) := by
          rw [List.drop_eq_getElem_cons hk', List.all_cons, hget]
        have hround : okByte s[k] = true → Hid (s.data.toList.all okByte = (s.data.toList.drop (k + 1)).all okByte) := fun h => by
          rw [hall.out, hstep, h, Bool.true_and]; exact rfl
        have hout : okByte s[k] = false → chk s = 5 := fun h => by
          rw [hc.out, hall.out, hstep, h]; rfl
        have hmeas : s.size - (intOf (Value.int .i64 ((k : Int) + 1))).toNat < s.size - (intOf (Value.int .i64 (k : Int))).toNat := by simp [intOf]; omega
        have hRound := Lib.hid hround
        have hOut := Lib.hid hout
        clear hround hout hstep hget
        obtain ⟨b, hb⟩ : ∃ b, s[k] = b := ⟨_, rfl⟩
        rw [hb] at hRound hOut
        by_cases h10 : b = 10
        · have f1 : ((s[k].toNat : Int) != 10) = false := by rw [hb, h10]; rfl
          have hr := Lib.hid (hRound.out (by rw [h10]; rfl))
          clear hb hRound hOut
          go_wp2_with fail
          go_roundw
          case rel => exact ⟨k + 1, by omega, by go_num, by trivial, hr.out⟩
          case measure => exact hmeas
        · have f1 : ((s[k].toNat : Int) != 10) = true := by
            rw [hb]; refine bne_iff_ne.2 fun e => h10 (UInt8.toNat_inj.1 ?_)
            rw [show (10 : UInt8).toNat = 10 from rfl]; omega
          by_cases h32 : b.toNat < 32
          · have f2 : decide ((s[k].toNat : Int) < 32) = true := by rw [hb]; simp; omega
            have hr := Lib.hid (hOut.out (by simp [okByte, h10]; omega))
            clear hb hRound hOut
            go_wp2_with fail
            go_ret
            exact ⟨by rw [hr.out]; rfl, rfl⟩
          · have f2 : decide ((s[k].toNat : Int) < 32) = false := by rw [hb]; simp; omega
            by_cases h126 : 126 < b.toNat
            · have f3 : decide ((126 : Int) < (s[k].toNat : Int)) = true := by rw [hb]; simp; omega
              have hr := Lib.hid (hOut.out (by simp [okByte, h10]; omega))
              clear hb hRound hOut
              go_wp2_with fail
              go_ret
              exact ⟨by rw [hr.out]; rfl, rfl⟩
            · have f3 : decide ((126 : Int) < (s[k].toNat : Int)) = false := by rw [hb]; simp; omega
              have hr := Lib.hid (hRound.out (by simp [okByte]; omega))
              clear hb hRound hOut
              go_wp2_with fail
              go_roundw
              case rel => exact ⟨k + 1, by omega, by go_num, by trivial, hr.out⟩
              case measure => exact hmeas
      · have i0 : ¬ (k : Int) < (s.size : Int) := by omega
        have hz : s.data.toList.drop k = [] := List.drop_eq_nil_of_le (by rw [← Lib.size_eq]; omega)
        go_wp2
        go_ret
        refine ⟨?_, rfl⟩
        rw [hc.out, hall.out, hz]; rfl

set_option maxHeartbeats 1000000 in
/-- A line that is there. -/
theorem line_in (s : ByteArray) (k : Nat) (x : ByteArray) (w : World) (hs : chk s = 0) (hx : (LB s)[k]? = some x) :
    Calls Tryd.prog 9 #[.string s, .int .i64 ((k : Int) + 1)] w fun e w' => e = .returned (.tuple #[.string x, .int .i64 0]) ∧ Below w.heap.size w w' := by
  have hz := chk_size hs
  have hxz := LB_size hx
  have hk : k < (LB s).length := (List.getElem?_eq_some_iff.1 hx).1
  have hle : (LB s).length ≤ 8193 := by
    rw [LB_length]; have := List.count_le_length (a := (10 : UInt8)) (l := s.data.toList); rw [← Lib.size_eq] at this; omega
  have HC := Lib.hid (check_any s w)
  rw [hs] at HC
  have HS := Lib.hid (fun (W : World) => strSplit s W (by omega))
  have HCl := Lib.hid (fun (W : World) => strClone x W (by omega))
  obtain ⟨n, hn⟩ : ∃ n, (LB s).length = n := ⟨_, rfl⟩
  rw [hn] at HS hk hle
  clear hn hs hz hxz
  have i1 : (k : Int) + 1 ≤ (n : Int) := by omega
  have i2 : ¬ (n : Int) < (k : Int) + 1 := by omega
  have i3 : (0 : Int) ≤ (k : Int) := by omega
  have i4 : (k : Int) < (n : Int) := by omega
  have i5 : (k : Int) ≤ 8193 := by omega
  go_enter Tryd.func9, Tryd.ntmps9
  go_wp2_with fail
  with_reducible refine HC.out.mono ?_
  rintro e w1 ⟨rfl, rfl⟩
  go_wp2_with fail
  with_reducible refine (HS.out _).mono ?_
  rintro e w1 ⟨g, rfl, hg, hcell, hb⟩
  have c0 := hcell k x hx
  clear hcell
  go_wp2_with fail
  with_reducible refine (HCl.out _).mono ?_
  rintro e w2 ⟨rfl, hb2⟩
  go_wp2_with fail
  go_ret2
  exact ⟨rfl, hb.trans (hb2.mono hb.size)⟩

set_option maxHeartbeats 1000000 in
/-- A line that is not there. -/
theorem line_out (s : ByteArray) (w : World) (hs : chk s = 0) :
    Calls Tryd.prog 9 #[.string s, .int .i64 (((LB s).length : Nat) + 1 : Int)] w fun e w' => e = .returned (.tuple #[.string ⟨#[]⟩, .int .i64 4]) ∧ Below w.heap.size w w' := by
  have hz := chk_size hs
  have hle : (LB s).length ≤ 8193 := by
    rw [LB_length]; have := List.count_le_length (a := (10 : UInt8)) (l := s.data.toList); rw [← Lib.size_eq] at this; omega
  have HC := Lib.hid (check_any s w)
  rw [hs] at HC
  have HS := Lib.hid (fun (W : World) => strSplit s W (by omega))
  obtain ⟨n, hn⟩ : ∃ n, (LB s).length = n := ⟨_, rfl⟩
  rw [hn] at HS hle ⊢
  clear hn hs hz
  have i2 : (n : Int) < (n : Int) + 1 := by omega
  have i3 : ¬ (n : Int) + 1 < 1 := by omega
  have i5 : (n : Int) ≤ 8193 := by omega
  go_enter Tryd.func9, Tryd.ntmps9
  go_wp2_with fail
  with_reducible refine HC.out.mono ?_
  rintro e w1 ⟨rfl, rfl⟩
  go_wp2_with fail
  with_reducible refine (HS.out _).mono ?_
  rintro e w1 ⟨g, rfl, hg, hcell, hb⟩
  clear hcell
  go_wp2_with fail
  go_ret2
  exact ⟨rfl, hb⟩

set_option maxHeartbeats 1000000 in
/-- The byte at a column of a line. -/
theorem offset_in (s : ByteArray) (k c : Nat) (x : ByteArray) (w : World) (hs : chk s = 0) (hx : (LB s)[k]? = some x) (hc : c ≤ x.size) :
    Calls Tryd.prog 5 #[.string s, .int .i64 ((k : Int) + 1), .int .i64 ((c : Int) + 1)] w fun e w' =>
      e = .returned (.tuple #[.int .i64 ((start s.data.toList k : Int) + (c : Int)), .int .i64 0]) ∧ Below w.heap.size w w' := by
  have hz := chk_size hs
  have hxz := LB_size hx
  have hk : k < (LB s).length := (List.getElem?_eq_some_iff.1 hx).1
  have hle : (LB s).length ≤ 8193 := by
    rw [LB_length]; have := List.count_le_length (a := (10 : UInt8)) (l := s.data.toList); rw [← Lib.size_eq] at this; omega
  have HL := Lib.hid (line_in s k x w hs hx)
  have i1 : (c : Int) + 1 ≤ (x.size : Int) + 1 := by omega
  have i2 : ¬ (x.size : Int) + 1 < (c : Int) + 1 := by omega
  have i3 : ¬ (c : Int) + 1 < 1 := by omega
  have i4 : (x.size : Int) ≤ 8192 := by omega
  have d1 : decide ((c : Int) + 1 < 1) = false := by simp; omega
  have d2 : decide (x.size < c) = false := by simp; omega
  have d3 : decide ((x.size : Int) < (c : Int)) = false := by simp; omega
  have i5 : (k : Int) ≤ 8193 := by omega
  have i6 : (s.size : Int) ≤ 8192 := by omega
  clear hs hx hle
  go_enter Tryd.func5, Tryd.ntmps5
  go_wp2_with fail
  with_reducible refine HL.out.mono ?_
  rintro e w1 ⟨rfl, hb⟩
  go_wp2_with fail
  go_loopw [10, 33] (fun a i wr => ∃ j : Nat, j ≤ k ∧ i = .int .i64 j ∧ a = .int .i64 (start s.data.toList j : Nat) ∧ w1 = wr) (fun _ i _ => k - (intOf i).toNat)
  case atStart => exact ⟨0, Nat.zero_le _, rfl, rfl, rfl⟩
  case round =>
    obtain ⟨j, hj, rfl, rfl, rfl⟩ := hrel
    by_cases hlt : j < k
    · have hsl := start_le s.data.toList j
      rw [← Lib.size_eq] at hsl
      have hs1 := start_succ s.data.toList j
      have hge := Lib.indexByte_ge (s.data.toList.drop (start s.data.toList j)) 10
      have hsl1 := start_le s.data.toList (j + 1)
      rw [← Lib.size_eq] at hsl1
      obtain ⟨a, ha⟩ : ∃ a, start s.data.toList j = a := ⟨_, rfl⟩
      obtain ⟨a1, ha1⟩ : ∃ a1, start s.data.toList (j + 1) = a1 := ⟨_, rfl⟩
      rw [ha] at hsl hs1 hge
      rw [ha1] at hs1 hsl1
      obtain ⟨ix, hix⟩ : ∃ ix, Lib.indexByte (s.data.toList.drop a) 10 = ix := ⟨_, rfl⟩
      rw [hix] at hs1 hge
      have q0 : (j : Int) < (k : Int) := by omega
      have q1 : (0 : Int) ≤ (a : Int) := by omega
      have q2 : (a : Int) ≤ (s.size : Int) := by omega
      have q3 : (a : Int) + (ix + 1) ≤ 8192 := by omega
      have q4 : ix ≤ 8192 := by omega
      have hA1 := Lib.hid ha1
      have hS1 := Lib.hid hs1
      rw [ha]
      have HI := Lib.hid (fun (W : World) => (Tryd.strings_IndexByte (s.extract a s.size) 10 W).mono (R' := fun e w' => e = .returned (.int .i64 ix) ∧ w' = W) fun e w' ⟨he, hw⟩ =>
        ⟨by rw [he]; show Ending.returned (.int .i64 (Lib.indexByte (s.extract a s.size).data.toList 10)) = _; rw [Lib.extract_to_end, hix], hw⟩)
      clear hs1 ha1 ha hix
      go_wp2_with fail
      with_reducible refine (HI.out _).mono ?_
      rintro e w2 ⟨rfl, rfl⟩
      go_wp2_with fail
      go_roundw
      case rel => exact ⟨j + 1, by omega, by go_num, by rw [hA1.out]; congr 1; have := hS1.out; omega, by trivial⟩
      case measure => simp [intOf]; omega
    · have q0 : ¬ (j : Int) < (k : Int) := by omega
      obtain rfl : j = k := by omega
      have hsl := start_le s.data.toList j
      rw [← Lib.size_eq] at hsl
      obtain ⟨a, ha⟩ : ∃ a, start s.data.toList j = a := ⟨_, rfl⟩
      rw [ha] at hsl ⊢
      have hA := Lib.hid ha
      have q2 : (a : Int) ≤ (s.size : Int) := by omega
      have q3 : (a : Int) + ((c : Int) + 1) ≤ 20000 := by omega
      have q4 : (0 : Int) ≤ (a : Int) := by omega
      clear ha
      go_wp2_with fail
      go_ret2
      refine ⟨?_, hb⟩
      show Ending.returned (.tuple #[.int .i64 ((a : Int) + ((c : Int) + 1) - 1), .int .i64 0]) = _
      rw [show (a : Int) + ((c : Int) + 1) - 1 = (a : Int) + (c : Int) from by omega, hA.out]

set_option maxHeartbeats 1000000 in
/-- A byte's place. -/
theorem place_in (s : ByteArray) (n : Nat) (w : World) (hs : chk s = 0) (ha : n ≤ s.size) :
    Calls Tryd.prog 8 #[.string s, .int .i64 n] w fun e w' =>
      ∃ k b x c, (LB s)[k]? = some x ∧ c ≤ x.size ∧ start s.data.toList k = b ∧ b + c = n ∧
        e = .returned (.tuple #[.int .i64 ((k : Int) + 1), .int .i64 ((c : Int) + 1), .int .i64 0]) ∧ Below w.heap.size w w' := by
  have hz := chk_size hs
  have HC := Lib.hid (check_any s w)
  rw [hs] at HC
  have i1 : (n : Int) ≤ (s.size : Int) := by omega
  have i2 : ¬ (s.size : Int) < (n : Int) := by omega
  have i3 : (0 : Int) ≤ (n : Int) := by omega
  have i6 : (s.size : Int) ≤ 8192 := by omega
  have hL : (s.extract 0 n).data.toList = s.data.toList.take n := Lib.extract_from_zero s n
  have hLz : (s.extract 0 n).size = n := by rw [Lib.size_eq, hL, List.length_take, ← Lib.size_eq]; omega
  obtain ⟨b, hb1, hb2, hb3, hb4⟩ := last_start (s.extract 0 n)
  obtain ⟨k, hk⟩ : ∃ k, (s.data.toList.take n).count 10 = k := ⟨_, rfl⟩
  have hk8 : k ≤ 8192 := by
    have := List.count_le_length (a := (10 : UInt8)) (l := s.data.toList.take n)
    rw [hk, List.length_take] at this; omega
  have hlaw := place_law (s.data.toList.drop n) (s.data.toList.take n) b (by rw [← hL, ← Lib.size_eq]; exact hb2) (by rw [← hL]; exact hb3) (by rw [← hL]; exact hb4)
  rw [List.take_append_drop, hk] at hlaw
  obtain ⟨hst, y, hy, hlen⟩ := hlaw
  rw [← hL, ← Lib.size_eq, hLz] at hlen
  rw [hLz] at hb2
  have hy2 : ∃ x, (LB s)[k]? = some x ∧ x.data.toList = y := by
    rw [← LB_lines, List.getElem?_map] at hy
    cases hx : (LB s)[k]? with
    | none => rw [hx] at hy; cases hy
    | some x => rw [hx] at hy; exact ⟨x, rfl, Option.some.inj hy⟩
  obtain ⟨x, hx, hxy⟩ := hy2
  have hc : n - b ≤ x.size := by rw [Lib.size_eq, hxy]; exact hlen
  have HCt := Lib.hid (fun (W : World) => (Tryd.strings_Count_one (s.extract 0 n) 10 W).mono (R' := fun e w' => e = .returned (.int .i64 (k : Int)) ∧ w' = W) fun e w' ⟨he, hw⟩ =>
    ⟨by rw [he, hL]; show Ending.returned (.int .i64 (((s.data.toList.take n).count 10 : Nat) : Int)) = _; rw [hk], hw⟩)
  have HLt := Lib.hid (fun (W : World) => (Tryd.strings_LastIndexByte (s.extract 0 n) 10 (by omega) W).mono (R' := fun e w' => e = .returned (.int .i64 ((b : Int) - 1)) ∧ w' = W) fun e w' ⟨he, hw⟩ =>
    ⟨by rw [he, hb1], hw⟩)
  have j1 : (b : Int) ≤ (n : Int) := by omega
  have j2 : (0 : Int) ≤ (b : Int) := by omega
  have j3 : (k : Int) ≤ 8192 := by omega
  have j4 : (0 : Int) ≤ (k : Int) := by omega
  have j5 : (n : Int) ≤ 8192 := by omega
  have hSt := Lib.hid hst
  have hX := Lib.hid hx
  clear hb1 hb3 hb4 hL hLz hk hy hxy hst hx hlen hs
  go_enter Tryd.func8, Tryd.ntmps8
  go_wp2_with fail
  with_reducible refine HC.out.mono ?_
  rintro e w1 ⟨rfl, rfl⟩
  go_wp2_with fail
  go_quiet ((first
    | (go_at_call 10; refine (HCt.out _).mono ?_; rintro e w'' ⟨rfl, rfl⟩; exact ⟨rfl, _, rfl⟩)
    | (go_at_call 13; refine (HLt.out _).mono ?_; rintro e w'' ⟨rfl, rfl⟩; exact ⟨rfl, _, rfl⟩)))
  go_wp2_with fail
  go_ret3
  refine ⟨k, b, x, n - b, hX.out, hc, hSt.out, by omega, ?_, Below.drewN (Below.refl _ _) _⟩
  show Ending.returned (.tuple #[.int .i64 (1 + (k : Int)), .int .i64 ((n : Int) - ((b : Int) - 1)), .int .i64 0]) = _
  rw [show (1 + (k : Int)) = (k : Int) + 1 from by omega, show (n : Int) - ((b : Int) - 1) = ((n - b : Nat) : Int) + 1 from by omega]
end Go.Proofs.YteggjabfgffcfaaDoor
