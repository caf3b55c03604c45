/- The contracts of the package word: each function returns what its Lean twin computes, for all arguments. No conditions. -/
import Derived.Test.YtpeabfbljiaedaaRows
import Derived.Test.YtpeabfbljiaedaaWordMath
import Derived.WalkKit
import Derived.WalkSpells
namespace Go.Proofs.Ytpeabfbljiaedaa
open Go.RowKit

theorem ret_int {k : IntKind} {a b : Int} (h : a = b) : Ending.returned (.int k a) = .returned (.int k b) := by rw [h]

set_option maxHeartbeats 400000 in
theorem wrap_any (n : Int) (w : World) :
    Calls Try.prog 14 #[.int .i64 n] w fun e w' => e = .returned (.int .i64 (wr n)) ∧ w = w' := by
  go_enter Try.func14, Try.ntmps14
  go_wp2
  go_ret
  exact ⟨ret_int (wr_step n), rfl⟩

set_option maxHeartbeats 400000 in
theorem add_any (a b : Int) (w : World) :
    Calls Try.prog 11 #[.int .i64 a, .int .i64 b] w fun e w' => e = .returned (.int .i64 (wadd a b)) ∧ w = w' := by
  go_enter Try.func11, Try.ntmps11
  go_wp2_with fail
  refine (wrap_any _ _).mono ?_
  rintro e w' ⟨rfl, rfl⟩
  go_wp2
  go_ret
  exact ⟨ret_int (wr_wrap64 _), rfl⟩

set_option maxHeartbeats 400000 in
theorem sub_any (a b : Int) (w : World) :
    Calls Try.prog 13 #[.int .i64 a, .int .i64 b] w fun e w' => e = .returned (.int .i64 (wsub a b)) ∧ w = w' := by
  go_enter Try.func13, Try.ntmps13
  go_wp2_with fail
  refine (wrap_any _ _).mono ?_
  rintro e w' ⟨rfl, rfl⟩
  go_wp2
  go_ret
  exact ⟨ret_int (wr_wrap64 _), rfl⟩

set_option maxHeartbeats 400000 in
theorem mul_any (a b : Int) (w : World) :
    Calls Try.prog 12 #[.int .i64 a, .int .i64 b] w fun e w' => e = .returned (.int .i64 (wmul a b)) ∧ w = w' := by
  go_enter Try.func12, Try.ntmps12
  go_wp2_with fail
  refine (wrap_any _ _).mono ?_
  rintro e w' ⟨rfl, rfl⟩
  go_wp2_with fail
  refine (wrap_any _ _).mono ?_
  rintro e w' ⟨rfl, rfl⟩
  go_wp2_with fail
  refine (wrap_any _ _).mono ?_
  rintro e w' ⟨rfl, rfl⟩
  go_wp2
  go_ret
  exact ⟨ret_int (wr_wrap64 _), rfl⟩

set_option maxHeartbeats 400000 in
theorem pack_any (n : Int) (w : World) :
    Calls Try.prog 15 #[.int .i64 n] w fun e w' => e = .returned (.int .i64 (2 * wr n + 1)) ∧ w = w' := by
  have h0 := wr_lo n
  have h1 := wr_hi n
  go_enter Try.func15, Try.ntmps15
  go_wp2_with fail
  refine (wrap_any _ _).mono ?_
  rintro e w' ⟨rfl, rfl⟩
  go_wp2
  go_ret
  exact ⟨rfl, rfl⟩

theorem ret_int_bool {k : IntKind} {a b : Int} {c : Bool} (h : a = b) : Ending.returned (.tuple #[.int k a, .bool c]) = .returned (.tuple #[.int k b, .bool c]) := by rw [h]
theorem ret_int_int {k j : IntKind} {a b : Int} {c : Int} (h : a = b) : Ending.returned (.tuple #[.int k a, .int j c]) = .returned (.tuple #[.int k b, .int j c]) := by rw [h]

set_option maxHeartbeats 400000 in
theorem unpack_in (s : Int) (w : World) (h0 : -1073741824 ≤ s) (h1 : s ≤ 1073741823) :
    Calls Try.prog 16 #[.int .i64 (2 * s + 1)] w fun e w' => e = .returned (.tuple #[.int .i64 s, .bool true]) ∧ w = w' := by
  have e1 := and1_odd s
  have c1 : decide (2 * s + 1 < -2147483648) = false := by simp; omega
  have c2 : decide (2147483648 ≤ 2 * s + 1) = false := by simp; omega
  go_enter Try.func16, Try.ntmps16
  go_wp2
  go_ret2
  exact ⟨ret_int_bool (by omega), rfl⟩

set_option maxHeartbeats 400000 in
theorem unpack_out (s : Int) (w : World) (h0 : s < -1073741824 ∨ 1073741823 < s) :
    Calls Try.prog 16 #[.int .i64 (2 * s + 1)] w fun e w' => e = .returned (.tuple #[.int .i64 0, .bool false]) ∧ w = w' := by
  have e1 := and1_odd s
  rcases h0 with h | h
  · have c1 : decide (2 * s + 1 < -2147483648) = true := by simp; omega
    go_enter Try.func16, Try.ntmps16
    go_wp2
    go_ret2
    exact ⟨rfl, rfl⟩
  · have c1 : decide (2 * s + 1 < -2147483648) = false := by simp; omega
    have c2 : decide (2147483648 ≤ 2 * s + 1) = true := by simp; omega
    go_enter Try.func16, Try.ntmps16
    go_wp2
    go_ret2
    exact ⟨rfl, rfl⟩

set_option maxHeartbeats 400000 in
theorem div_zero (a b : Int) (w : World) (h : wr b = 0) :
    Calls Try.prog 17 #[.int .i64 a, .int .i64 b] w fun e w' => e = .returned (.tuple #[.int .i64 0, .int .i64 1]) ∧ w = w' := by
  have c : (wr b == 0) = true := by rw [h]; rfl
  clear h
  go_enter Try.func17, Try.ntmps17
  go_wp2_with fail
  refine (wrap_any _ _).mono ?_
  rintro e w' ⟨rfl, rfl⟩
  go_wp2
  go_ret2
  exact ⟨rfl, rfl⟩

set_option maxHeartbeats 400000 in
theorem div_some (a b : Int) (w : World) (h : wr b ≠ 0) :
    Calls Try.prog 17 #[.int .i64 a, .int .i64 b] w fun e w' => e = .returned (.tuple #[.int .i64 (wdiv a b), .int .i64 0]) ∧ w = w' := by
  have c : (wr b == 0) = false := by simpa using h
  have a0 := wr_lo a
  have a1 := wr_hi a
  have b0 := wr_lo b
  have b1 := wr_hi b
  go_enter Try.func17, Try.ntmps17
  go_wp2_with fail
  refine (wrap_any _ _).mono ?_
  rintro e w' ⟨rfl, rfl⟩
  go_wp2_with fail
  refine (wrap_any _ _).mono ?_
  rintro e w' ⟨rfl, rfl⟩
  go_wp2_with fail
  refine (wrap_any _ _).mono ?_
  rintro e w' ⟨rfl, rfl⟩
  go_wp2_with fail
  refine (wrap_any _ _).mono ?_
  rintro e w' ⟨rfl, rfl⟩
  go_wp2
  go_ret2
  exact ⟨ret_int_int (wr_wrap64 _), rfl⟩

set_option maxHeartbeats 400000 in
theorem mod_zero (a b : Int) (w : World) (h : wr b = 0) :
    Calls Try.prog 18 #[.int .i64 a, .int .i64 b] w fun e w' => e = .returned (.tuple #[.int .i64 0, .int .i64 1]) ∧ w = w' := by
  have c : (wr b == 0) = true := by rw [h]; rfl
  clear h
  go_enter Try.func18, Try.ntmps18
  go_wp2_with fail
  refine (wrap_any _ _).mono ?_
  rintro e w' ⟨rfl, rfl⟩
  go_wp2
  go_ret2
  exact ⟨rfl, rfl⟩

set_option maxHeartbeats 400000 in
theorem mod_some (a b : Int) (w : World) (h : wr b ≠ 0) :
    Calls Try.prog 18 #[.int .i64 a, .int .i64 b] w fun e w' => e = .returned (.tuple #[.int .i64 (wmod a b), .int .i64 0]) ∧ w = w' := by
  have c : (wr b == 0) = false := by simpa using h
  have a0 := wr_lo a
  have a1 := wr_hi a
  have b0 := wr_lo b
  have b1 := wr_hi b
  go_enter Try.func18, Try.ntmps18
  go_wp2_with fail
  refine (wrap_any _ _).mono ?_
  rintro e w' ⟨rfl, rfl⟩
  go_wp2_with fail
  refine (wrap_any _ _).mono ?_
  rintro e w' ⟨rfl, rfl⟩
  go_wp2_with fail
  refine (wrap_any _ _).mono ?_
  rintro e w' ⟨rfl, rfl⟩
  go_wp2
  go_ret2
  exact ⟨ret_int_int rfl, rfl⟩
end Go.Proofs.Ytpeabfbljiaedaa
