/- Plain facts on whole numbers of 64 bits, for the statements about rational numbers: no program here. -/
import Derived.IntWalk
import Derived.RowKit
namespace Go.Proofs.Ytifemmalcncicaa.RatNum
open Go.RowKit

theorem u64w (x : Int) : IntKind.u64.wrap x = x % 18446744073709551616 := by simp [IntKind.wrap, IntKind.bits, IntKind.signed]
theorem u64id {x : Int} (h0 : 0 ≤ x) (h1 : x < 18446744073709551616) : IntKind.u64.wrap x = x := by rw [u64w]; omega
theorem w64id {x : Int} (h0 : -9223372036854775808 ≤ x) (h1 : x < 9223372036854775808) : wrap64 x = x := by unfold wrap64; omega

theorem wf64 {x : Int} (h : (Lit.int .i64 x).wf = true) : -9223372036854775808 ≤ x ∧ x < 9223372036854775808 := by
  simp [Lit.wf, IntKind.min, IntKind.max, IntKind.signed, IntKind.bits] at h
  omega

/-- The magnitude. -/
def mag (x : Int) : Int := if x < 0 then -x else x
theorem mag_nonneg (x : Int) : 0 ≤ mag x := by unfold mag; split <;> omega
theorem mag_lt {x : Int} (h0 : -9223372036854775808 ≤ x) (h1 : x < 9223372036854775808) : mag x < 9223372036854775809 := by unfold mag; split <;> omega
theorem mag_zero {x : Int} : mag x = 0 ↔ x = 0 := by unfold mag; split <;> omega

/-- The greatest common divisor, as a whole number. -/
def gcdI (a b : Int) : Int := (Int.gcd a b : Int)
theorem gcdI_nonneg (a b : Int) : 0 ≤ gcdI a b := Int.natCast_nonneg _
theorem gcdI_zero (a : Int) (h : 0 ≤ a) : gcdI a 0 = a := by unfold gcdI; rw [Int.gcd_zero_right]; omega
theorem gcdI_step {a b : Int} (h : 0 ≤ a) : gcdI b (Int.tmod a b) = gcdI a b := by
  unfold gcdI
  rw [Int.tmod_eq_emod_of_nonneg h, Int.emod_def, Int.gcd_sub_mul_left_right, Int.gcd_comm]
theorem gcdI_pos {a b : Int} (h : b ≠ 0) : 0 < gcdI a b := by
  unfold gcdI
  have := Int.gcd_pos_of_ne_zero_right a h
  omega
theorem gcdI_le {a b : Int} (h : 0 < b) : gcdI a b ≤ b := by
  unfold gcdI
  have := Int.le_of_dvd h (Int.gcd_dvd_right a b)
  omega

/-- What 'made' gives. -/
def madeS (neg : Bool) (n d : Int) : Int × Int × Int :=
  if n > 9223372036854775807 ∨ d > 9223372036854775807 then (0, 0, 2) else (if neg = true then -n else n, d, 0)

/-- Is n/d valid? -/
def validB (n d : Int) : Bool := decide (d ≥ 1) && (decide (n ≥ -9223372036854775807) && (gcdI (mag n) d == 1))

theorem valid_bounds {n d : Int} (h : validB n d = true) : 1 ≤ d ∧ -9223372036854775807 ≤ n := by
  unfold validB at h
  simp at h
  omega
theorem valid_gcd {n d : Int} (h : validB n d = true) : gcdI (mag n) d = 1 := by
  unfold validB at h
  simp at h
  exact h.2.2

end Go.Proofs.Ytifemmalcncicaa.RatNum
