/- Division of a number of two words by one word: plain facts on whole numbers, no program here. -/
import Derived.Test.YtifemmalcncicaaRatNum
namespace Go.Proofs.Ytifemmalcncicaa.RatDivNum
open Go.RowKit Go.Proofs.Ytifemmalcncicaa.RatNum

/-- The test of the loop says just whether the guess is too great. -/
theorem guess {Y a b u u1 q r : Int} (hY : Y = a * 4294967296 + b) (hq : q * a + r = u) : q * b > 4294967296 * r + u1 ↔ u * 4294967296 + u1 < q * Y := by
  have e : q * Y = (q * a) * 4294967296 + q * b := by rw [hY, Int.mul_add, ← Int.mul_assoc]
  rw [e]
  have e2 : q * a = u - r := by omega
  rw [e2]
  omega
theorem quo_le {Y U q : Int} (hY : 0 < Y) : q ≤ U / Y ↔ q * Y ≤ U := Int.le_ediv_iff_mul_le hY
theorem quo_lt {Y u u1 : Int} (hY : 0 < Y) (hu : u < Y) (h1 : u1 < 4294967296) (h0 : 0 ≤ u1) : (u * 4294967296 + u1) / Y < 4294967296 := by
  refine Int.ediv_lt_of_lt_mul hY ?_
  have : 4294967296 * Y = Y * 4294967296 := Int.mul_comm _ _
  omega
/-- The first guess is not too small, and at most two too great. -/
theorem first {Y a b u u1 : Int} (hY : Y = a * 4294967296 + b) (ha : 2147483648 ≤ a) (ha1 : a < 4294967296) (hb : 0 ≤ b) (hb1 : b < 4294967296) (hu0 : 0 ≤ u) (hu : u < Y) (h0 : 0 ≤ u1) (h1 : u1 < 4294967296) :
    (u * 4294967296 + u1) / Y ≤ u / a ∧ u / a ≤ 4294967297 ∧ 0 ≤ u / a ∧ (u / a) * a + u % a = u := by
  have hYp : 0 < Y := by omega
  have e := Int.mul_ediv_add_emod u a
  have m0 := Int.emod_nonneg u (show a ≠ 0 by omega)
  have m1 := Int.emod_lt_of_pos u (show 0 < a by omega)
  have e' : (u / a) * a + u % a = u := by rw [Int.mul_comm]; exact e
  refine ⟨?_, ?_, Int.ediv_nonneg hu0 (by omega), e'⟩
  · -- floor(U / Y) <= floor(u B / (a B)) = floor(u / a)
    have hk := (quo_le (U := u * 4294967296 + u1) (q := (u * 4294967296 + u1) / Y) hYp).1 (Int.le_refl _)
    generalize (u * 4294967296 + u1) / Y = q at hk ⊢
    rw [Int.le_ediv_iff_mul_le (by omega)]
    by_cases hq : q ≤ 0
    · have : q * a ≤ 0 := Int.mul_nonpos_of_nonpos_of_nonneg hq (by omega)
      omega
    · have e2 : q * Y = (q * a) * 4294967296 + q * b := by rw [hY, Int.mul_add, ← Int.mul_assoc]
      have e3 : 0 ≤ q * b := Int.mul_nonneg (by omega) hb
      omega
  · have : u / a < 4294967298 := by
      refine Int.ediv_lt_of_lt_mul (by omega) ?_
      omega
    omega
/-- Where the rest has left the word, the guess is not too great. -/
theorem stop {Y a b u u1 q r : Int} (hY : Y = a * 4294967296 + b) (hb : 0 ≤ b) (hb1 : b < 4294967296) (h0 : 0 ≤ u1) (hq : q * a + r = u) (hr : 4294967296 ≤ r) (hq1 : q ≤ 4294967296) : q * Y ≤ u * 4294967296 + u1 := by
  have h := (guess (u1 := u1) (b := b) hY hq)
  have h2 : q * b ≤ 4294967296 * b := Int.mul_le_mul_of_nonneg_right hq1 hb
  have : ¬ (q * b > 4294967296 * r + u1) := by omega
  have := fun z => this (h.2 z)
  omega
/-- Quotient and rest of the scaled number. -/
theorem scaled {n y p : Int} (hp : 0 < p) : (n * p) / (y * p) = n / y ∧ (n * p) % (y * p) / p = n % y := by
  constructor
  · exact Int.mul_ediv_mul_of_pos_left n y hp
  · rw [Int.mul_comm n p, Int.mul_comm y p, Int.mul_emod_mul_of_pos n y hp]
    exact Int.mul_ediv_cancel_left _ (by omega)
/-- Two halves make the whole. -/
theorem halves {Y U u0 : Int} (hY : 0 < Y) (B : Int) :
    (U * B + u0) / Y = (U / Y) * B + ((U % Y) * B + u0) / Y ∧ (U * B + u0) % Y = ((U % Y) * B + u0) % Y := by
  have e := Int.mul_ediv_add_emod U Y
  have e2 : U * B + u0 = ((U % Y) * B + u0) + Y * ((U / Y) * B) := by
    have : Y * ((U / Y) * B) = (Y * (U / Y)) * B := by rw [Int.mul_assoc]
    rw [this]
    have : U * B = (Y * (U / Y) + U % Y) * B := by rw [e]
    rw [this, Int.add_mul]
    omega
  rw [e2]
  constructor
  · rw [Int.add_mul_ediv_left _ _ (by omega)]; omega
  · rw [Int.add_mul_emod_self_left]
end Go.Proofs.Ytifemmalcncicaa.RatDivNum
