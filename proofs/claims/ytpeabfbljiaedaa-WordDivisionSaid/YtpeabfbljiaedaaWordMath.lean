/- Plain laws of arithmetic modulo 2^31 (no program in sight): wr is what Wrap computes. No conditions. -/
import Derived.WalkKit
namespace Go.Proofs.Ytpeabfbljiaedaa
open Go.RowKit

/-- The word congruent to n modulo 2^31. -/
def wr (n : Int) : Int := (n + 1073741824) % 2147483648 - 1073741824

theorem and31 (x : Int) : bits .and .i64 x 2147483647 = x % 2147483648 := by
  show IntKind.i64.wrap (((BitVec.ofInt 64 x &&& BitVec.ofInt 64 2147483647).toNat : Nat) : Int) = _
  have h2 : (BitVec.ofInt 64 2147483647).toNat = 2 ^ 31 - 1 := by decide
  rw [BitVec.toNat_and, h2, Nat.and_two_pow_sub_one_eq_mod, BitVec.toNat_ofInt, IntKind.wrap_i64]
  omega

theorem wr_step (n : Int) : wrap64 (bits .and .i64 (wrap64 (n + 1073741824)) 2147483647 - 1073741824) = wr n := by
  rw [and31]; unfold wr wrap64; omega

theorem wr_lo (n : Int) : -1073741824 ≤ wr n := by unfold wr; omega
theorem wr_hi (n : Int) : wr n ≤ 1073741823 := by unfold wr; omega
theorem wr_id (n : Int) (h0 : -1073741824 ≤ n) (h1 : n ≤ 1073741823) : wr n = n := by unfold wr; omega
theorem wr_wrap64 (n : Int) : wr (wrap64 n) = wr n := by unfold wr wrap64; omega
theorem wr_wr (n : Int) : wr (wr n) = wr n := wr_id _ (wr_lo n) (wr_hi n)
theorem wr_cong (a b : Int) (h : a % 2147483648 = b % 2147483648) : wr a = wr b := by unfold wr; omega
theorem wr_mod (a : Int) : wr a % 2147483648 = a % 2147483648 := by unfold wr; omega
theorem wr_add_l (a b : Int) : wr (wr a + b) = wr (a + b) := by unfold wr; omega
theorem wr_add_r (a b : Int) : wr (a + wr b) = wr (a + b) := by unfold wr; omega
theorem wr_sub_add (a b : Int) : wr (wr (a - b) + b) = wr a := by unfold wr; omega
theorem mod_mul_l (a b : Int) : (wr a * b) % 2147483648 = (a * b) % 2147483648 := by
  rw [Int.mul_emod, wr_mod, ← Int.mul_emod]
theorem mod_mul_r (a b : Int) : (a * wr b) % 2147483648 = (a * b) % 2147483648 := by
  rw [Int.mul_emod, wr_mod, ← Int.mul_emod]
theorem wr_mul_l (a b : Int) : wr (wr a * b) = wr (a * b) := wr_cong _ _ (mod_mul_l a b)
theorem wr_mul_r (a b : Int) : wr (a * wr b) = wr (a * b) := wr_cong _ _ (mod_mul_r a b)
/-- The product of two words, and its size. -/
theorem wr_prod (a b : Int) : -1152921504606846976 ≤ wr a * wr b ∧ wr a * wr b ≤ 1152921504606846976 := by
  have h1 := wr_lo a; have h2 := wr_hi a; have h3 := wr_lo b; have h4 := wr_hi b
  generalize wr a = x at *; generalize wr b = y at *
  have hx : x.natAbs ≤ 1073741824 := by omega
  have hy : y.natAbs ≤ 1073741824 := by omega
  have h := Nat.mul_le_mul hx hy
  rw [← Int.natAbs_mul] at h
  omega

def wadd (a b : Int) : Int := wr (a + b)
def wsub (a b : Int) : Int := wr (a - b)
def wmul (a b : Int) : Int := wr (wr a * wr b)

theorem wmul_eq (a b : Int) : wmul a b = wr (a * b) := by unfold wmul; rw [wr_mul_l, wr_mul_r]
theorem ring_add (a b : Int) : wadd a b = wadd b a := by unfold wadd; rw [Int.add_comm]
theorem ring_mul (a b : Int) : wmul a b = wmul b a := by rw [wmul_eq, wmul_eq, Int.mul_comm]
theorem ring_add3 (a b c : Int) : wadd (wadd a b) c = wadd a (wadd b c) := by
  unfold wadd; rw [wr_add_l, wr_add_r, Int.add_assoc]
theorem ring_mul3 (a b c : Int) : wmul (wmul a b) c = wmul a (wmul b c) := by
  simp only [wmul_eq]; rw [wr_mul_l, wr_mul_r, Int.mul_assoc]
theorem ring_dist (a b c : Int) : wmul a (wadd b c) = wadd (wmul a b) (wmul a c) := by
  simp only [wmul_eq]; unfold wadd; rw [wr_mul_r, wr_add_l, wr_add_r, Int.mul_add]
theorem ring_sub (a b : Int) : wadd (wsub a b) b = wr a := by unfold wadd wsub; exact wr_sub_add a b
theorem and1 (x : Int) : bits .and .i64 x 1 = x % 2 := by
  show IntKind.i64.wrap (((BitVec.ofInt 64 x &&& BitVec.ofInt 64 1).toNat : Nat) : Int) = _
  have h2 : (BitVec.ofInt 64 1).toNat = 2 ^ 1 - 1 := by decide
  rw [BitVec.toNat_and, h2, Nat.and_two_pow_sub_one_eq_mod, BitVec.toNat_ofInt, IntKind.wrap_i64]
  omega
theorem and1_odd (s : Int) : bits .and .i64 (2 * s + 1) 1 = 1 := by rw [and1]; omega
/-- Quotient and remainder, rounded towards zero, as words. -/
def wdiv (a b : Int) : Int := wr ((wr a).tdiv (wr b))
def wmod (a b : Int) : Int := (wr a).tmod (wr b)

theorem div_back (a b : Int) : wadd (wmul (wdiv (wr a) (wr b)) (wr b)) (wmod (wr a) (wr b)) = wr a := by
  rw [wmul_eq]; unfold wadd wdiv wmod
  rw [wr_add_l, wr_wr, wr_wr]
  have h : wr (wr ((wr a).tdiv (wr b)) * wr b + (wr a).tmod (wr b)) = wr (((wr a).tdiv (wr b)) * wr b + (wr a).tmod (wr b)) := by
    rw [← wr_add_l, wr_mul_l, wr_add_l]
  rw [h, Int.mul_comm, Int.mul_tdiv_add_tmod, wr_wr]
theorem rem_small (a b : Int) (hb : wr b ≠ 0) : (wmod (wr a) (wr b)).natAbs < (wr b).natAbs := by
  unfold wmod; rw [wr_wr, wr_wr]
  rw [Int.natAbs_tmod]
  exact Nat.mod_lt _ (by omega)
theorem rem_sign (a b : Int) : 0 ≤ wmod (wr a) (wr b) * wr a := by
  unfold wmod; rw [wr_wr, wr_wr]
  by_cases h : 0 ≤ wr a
  · exact Int.mul_nonneg (Int.tmod_nonneg _ h) h
  · have h2 : (wr a).tmod (wr b) ≤ 0 := by
      have e : wr a = - (- wr a) := by omega
      rw [e, Int.neg_tmod]
      have := Int.tmod_nonneg (wr b) (show 0 ≤ - wr a by omega)
      omega
    exact Int.mul_nonneg_of_nonpos_of_nonpos h2 (by omega)
theorem rem_prod (a b : Int) (hb : wr b ≠ 0) : wmod (wr a) (wr b) * wr a ≤ 1152921504606846976 := by
  have h1 := wr_lo a; have h2 := wr_hi a; have h3 := wr_lo b; have h4 := wr_hi b
  have hr := rem_small a b hb
  generalize wmod (wr a) (wr b) = x at *; generalize wr a = y at *
  have hx : x.natAbs ≤ 1073741824 := by omega
  have hy : y.natAbs ≤ 1073741824 := by omega
  have h := Nat.mul_le_mul hx hy
  rw [← Int.natAbs_mul] at h
  omega

theorem ring_most : wadd 1073741823 1 = -1073741824 := by decide
end Go.Proofs.Ytpeabfbljiaedaa
