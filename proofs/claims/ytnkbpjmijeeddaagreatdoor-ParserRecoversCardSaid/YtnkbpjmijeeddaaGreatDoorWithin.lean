/- within: a number brought into a range. Condition: a range of at least one and at most 2^62 numbers. -/
import Derived.Test.YtnkbpjmijeeddaaGreatDoorRows
import Derived.Test.YtnkbpjmijeeddaaGreatDoorBase
namespace Go.Proofs.YtnkbpjmijeeddaaGreatDoor
open Go.RowKit

def withinI (n lo hi : Int) : Int := lo + n.tmod (hi - lo + 1) % (hi - lo + 1)
theorem withinI_lo (n lo hi : Int) (h : lo ≤ hi) : lo ≤ withinI n lo hi := by
  unfold withinI
  have := Int.emod_nonneg (n.tmod (hi - lo + 1)) (show hi - lo + 1 ≠ 0 by omega)
  omega
theorem withinI_hi (n lo hi : Int) (h : lo ≤ hi) : withinI n lo hi ≤ hi := by
  unfold withinI
  have := Int.emod_lt_of_pos (n.tmod (hi - lo + 1)) (show 0 < hi - lo + 1 by omega)
  omega
theorem tmod_small (n m : Int) (h : 1 ≤ m) : -m < n.tmod m ∧ n.tmod m < m := by
  have h1 := Int.natAbs_tmod n m
  have h2 : n.natAbs % m.natAbs < m.natAbs := Nat.mod_lt _ (by omega)
  omega

set_option maxHeartbeats 400000 in
theorem within_any (n lo hi : Int) (w : World) (h0 : -4611686018427387904 ≤ lo) (h1 : lo ≤ hi) (h2 : hi ≤ 4611686018427387904) (h3 : hi - lo < 4611686018427387904) :
    Calls Tryz.prog 5 #[.int .i64 n, .int .i64 lo, .int .i64 hi] w fun e w' => e = .returned (.int .i64 (withinI n lo hi)) ∧ w = w' := by
  have m1 := (tmod_small n (hi - lo + 1) (by omega)).1
  have m2 := (tmod_small n (hi - lo + 1) (by omega)).2
  have p : (0 : Int) ≤ n.tmod (hi - lo + 1) + (hi - lo + 1) := by omega
  have q0 := Int.emod_nonneg (n.tmod (hi - lo + 1)) (show hi - lo + 1 ≠ 0 by omega)
  have q1 := Int.emod_lt_of_pos (n.tmod (hi - lo + 1)) (show 0 < hi - lo + 1 by omega)
  go_enter Tryz.func5, Tryz.ntmps5
  go_wp2
  go_ret
  exact ⟨ret_int rfl, rfl⟩
end Go.Proofs.YtnkbpjmijeeddaaGreatDoor
