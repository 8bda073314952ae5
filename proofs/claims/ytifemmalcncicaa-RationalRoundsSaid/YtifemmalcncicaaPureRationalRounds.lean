/- rational.Floor and rational.Round give what the reference gives, for every pair of numbers; no condition. -/
import Derived.Test.YtifemmalcncicaaPRationalRoundsx1
import Derived.Test.YtifemmalcncicaaPRationalRoundsx2
import Derived.Test.YtifemmalcncicaaPRationalRoundsx3
import Derived.Test.YtifemmalcncicaaRatNum
namespace Go.Proofs.Ytifemmalcncicaa.Pure
open Go.RowKit Go.Proofs.Ytifemmalcncicaa.PRationalRounds Go.Proofs.YtifemmalcncicaaW.PrintWords Go.Proofs.YtifemmalcncicaaW.PrintLast Go.Proofs.Ytifemmalcncicaa.RatNum

theorem abs_eq {a : Int} (h0 : -9223372036854775808 ≤ a) (h1 : a < 9223372036854775808) : rational_abs.f a = some (mag a) := by
  unfold rational_abs.f mag
  split
  · rw [u64w, u64w]; congr 1; omega
  · rw [u64w]; congr 1; omega
theorem gcd_l0 (b : Nat) : ∀ (k : Nat) (x y : Int), 0 ≤ x → 0 ≤ y → y ≤ b → b < k → rational_gcd.l0 k x y = some (gcdI x y) := by
  induction b with
  | zero =>
    intro k x y hx hy hb hk
    obtain ⟨k, rfl⟩ : ∃ m, k = m + 1 := ⟨k - 1, by omega⟩
    obtain rfl : y = 0 := by omega
    simp only [rational_gcd.l0]
    rw [if_pos trivial, gcdI_zero x hx]
  | succ b ih =>
    intro k x y hx hy hb hk
    obtain ⟨k, rfl⟩ : ∃ m, k = m + 1 := ⟨k - 1, by omega⟩
    simp only [rational_gcd.l0]
    by_cases e : y = 0
    · subst e; rw [if_pos rfl, gcdI_zero x hx]
    · rw [if_neg e]
      have h1 : Int.tmod x y = x % y := Int.tmod_eq_emod_of_nonneg hx
      have h2 := Int.emod_nonneg x e
      have h3 := Int.emod_lt_of_pos x (show 0 < y by omega)
      rw [ih k y (Int.tmod x y) hy (by omega) (by omega) (by omega), gcdI_step hx]
theorem gcd_eq {k : Nat} (hk : 18446744073709551616 < k) {x y : Int} (hx : 0 ≤ x) (hy : 0 ≤ y) (hy1 : y < 18446744073709551616) : rational_gcd.f k x y = some (gcdI x y) := by
  unfold rational_gcd.f
  exact gcd_l0 (18446744073709551615) k x y hx hy (by omega) (by omega)
theorem made_eq {k : Nat} (hk : 18446744073709551616 < k) {neg : Bool} {n d : Int} (hn : 0 ≤ n) (hd : 0 ≤ d) : rational_made.f k neg n d = some (madeS neg n d) := by
  obtain ⟨k, rfl⟩ : ∃ m, k = m + 1 := ⟨k - 1, by omega⟩
  unfold rational_made.f madeS
  by_cases e : n > 9223372036854775807
  · rw [if_pos e, if_pos (Or.inl e)]; simp only [rational_made.j0]; rfl
  · rw [if_neg e]
    by_cases e2 : d > 9223372036854775807
    · rw [if_pos (Or.inr e2), decide_eq_true e2]; simp only [rational_made.j0]; rfl
    · rw [if_neg (by omega), decide_eq_false e2]; simp only [rational_made.j0]
      have a1 : wrap64 n = n := w64id (by omega) (by omega)
      have a2 : wrap64 d = d := w64id (by omega) (by omega)
      have a3 : wrap64 (-n) = -n := w64id (by omega) (by omega)
      rw [a1, a2, a3]
      cases neg <;> rfl
theorem div_id {a g : Int} (h0 : 0 ≤ a) (h1 : a < 18446744073709551616) (hg : 0 < g) : IntKind.u64.wrap (Int.tdiv a g) = a / g ∧ 0 ≤ a / g ∧ a / g ≤ a := by
  have h2 : Int.tdiv a g = a / g := Int.tdiv_eq_ediv_of_nonneg h0
  have h3 : 0 ≤ a / g := Int.ediv_nonneg h0 (by omega)
  have h4 : a / g ≤ a := Int.ediv_le_self g h0
  rw [h2]
  exact ⟨u64id h3 (by omega), h3, h4⟩
/-- What 'Of' gives. -/
def ofS (a b : Int) : Int × Int × Int :=
  if b = 0 then (0, 0, 1) else madeS ((decide (a < 0)) != (decide (b < 0))) (mag a / gcdI (mag a) (mag b)) (mag b / gcdI (mag a) (mag b))
theorem of_eq {k : Nat} (hk : 18446744073709551616 < k) {a b : Int} (a0 : -9223372036854775808 ≤ a) (a1 : a < 9223372036854775808) (b0 : -9223372036854775808 ≤ b) (b1 : b < 9223372036854775808) :
    rational_Of.f k a b = some (ofS a b) := by
  unfold rational_Of.f ofS
  by_cases e : b = 0
  · rw [if_pos e, if_pos e]
  · rw [if_neg e, if_neg e]
    have ma := mag_lt a0 a1; have mb := mag_lt b0 b1
    have na := mag_nonneg a; have nb := mag_nonneg b
    have hg := gcdI_pos (a := mag a) (b := mag b) (by rw [ne_eq, mag_zero]; exact e)
    obtain ⟨q1, q2, q3⟩ := div_id (a := mag a) (g := gcdI (mag a) (mag b)) na (by omega) hg
    obtain ⟨r1, r2, r3⟩ := div_id (a := mag b) (g := gcdI (mag a) (mag b)) nb (by omega) hg
    rw [abs_eq a0 a1, abs_eq b0 b1]
    simp only [Option.bind_some]
    rw [gcd_eq hk na nb (by omega)]
    simp only [Option.bind_some]
    rw [if_neg (by omega), q1, r1, made_eq hk q2 r2]
    rfl
theorem valid_eq {k : Nat} (hk : 18446744073709551616 < k) {n d : Int} (n0 : -9223372036854775808 ≤ n) (n1 : n < 9223372036854775808) (d1 : d < 9223372036854775808) :
    rational_Valid.f k n d = some (validB n d) := by
  unfold rational_Valid.f validB
  by_cases e : d ≥ 1
  · rw [if_pos e, decide_eq_true e]
    by_cases e2 : n ≥ -9223372036854775807
    · rw [if_pos e2, decide_eq_true e2, abs_eq n0 n1]
      simp only [Option.bind_some]
      rw [u64id (by omega) (by omega), gcd_eq hk (mag_nonneg n) (by omega) (by omega)]
      simp
    · rw [if_neg e2, decide_eq_false e2]; simp
  · rw [if_neg e, decide_eq_false e]; simp
theorem awake_eq {k : Nat} (hk : 18446744073709551616 < k) : cutroomlaw01_awake.f k = some true := by
  unfold cutroomlaw01_awake.f
  rw [of_eq hk (by omega) (by omega) (by omega) (by omega), show ofS 6 (-4) = (-3, 2, 0) from by decide]
  simp only [Option.bind_some]
  rw [valid_eq hk (by omega) (by omega) (by omega), show validB (-3) 2 = true from by decide]
  rfl

theorem rmag_eq {a : Int} (h0 : -9223372036854775808 ≤ a) (h1 : a < 9223372036854775808) : cutroomref01_mag.f a = some (mag a) := by
  unfold cutroomref01_mag.f mag
  split
  · rw [u64w, u64w]; congr 1; unfold wrap64; omega
  · rw [u64w]; congr 1; omega
theorem rgcd_l0 (k : Nat) : ∀ (x y : Int), cutroomref01_gcd.l0 k x y = rational_gcd.l0 k x y := by
  induction k with
  | zero => intro x y; rfl
  | succ k ih => intro x y; simp only [cutroomref01_gcd.l0, rational_gcd.l0, ih]
theorem rgcd_eq {k : Nat} (hk : 18446744073709551616 < k) {x y : Int} (hx : 0 ≤ x) (hy : 0 ≤ y) (hy1 : y < 18446744073709551616) : cutroomref01_gcd.f k x y = some (gcdI x y) := by
  unfold cutroomref01_gcd.f
  rw [rgcd_l0]
  exact gcd_eq hk hx hy hy1

theorem rvalid_eq {k : Nat} (hk : 18446744073709551616 < k) {n d : Int} (n0 : -9223372036854775808 ≤ n) (n1 : n < 9223372036854775808) (d1 : d < 9223372036854775808) :
    cutroomref01_Valid.f k n d = some (validB n d) := by
  unfold cutroomref01_Valid.f validB
  by_cases e : d ≥ 1
  · rw [if_pos e, decide_eq_true e]
    by_cases e2 : n ≥ -9223372036854775807
    · rw [if_pos e2, decide_eq_true e2, rmag_eq n0 n1]
      simp only [Option.bind_some]
      rw [u64id (by omega) (by omega), rgcd_eq hk (mag_nonneg n) (by omega) (by omega)]
      simp
    · rw [if_neg e2, decide_eq_false e2]; simp
  · rw [if_neg e, decide_eq_false e]; simp

theorem floor_facts {n d : Int} (n0 : -9223372036854775807 ≤ n) (n1 : n < 9223372036854775808) (hd : 1 ≤ d) (hd1 : d < 9223372036854775808) :
    (if (Int.tmod n d) < 0 then (some (wrap64 ((wrap64 (Int.tdiv n d)) - 1))) else (some (wrap64 (Int.tdiv n d)))) = some (n / d) ∧ (if Int.tmod n d < 0 then Int.tmod n d + d else Int.tmod n d) = n % d ∧ -9223372036854775807 ≤ n / d ∧ n / d < 9223372036854775808 := by
  have e1 := Int.mul_tdiv_add_tmod n d
  have e2 := Int.mul_ediv_add_emod n d
  have h1 := Int.emod_nonneg n (show d ≠ 0 by omega)
  have h2 := Int.emod_lt_of_pos n (show 0 < d by omega)
  have hq0 : -9223372036854775807 ≤ n / d := by
    rcases Int.lt_or_le n 0 with h | h
    · have := Int.ediv_le_ediv (show 0 < d by omega) (show -9223372036854775807 ≤ n by omega)
      have h3 : -9223372036854775807 ≤ (-9223372036854775807) / d := Int.le_ediv_of_mul_le (by omega) (by omega)
      omega
    · have := Int.ediv_nonneg h (show 0 ≤ d by omega); omega
  have hq1 : n / d < 9223372036854775808 := by
    rcases Int.lt_or_le n 0 with h | h
    · have := Int.ediv_neg_of_neg_of_pos h (show 0 < d by omega); omega
    · have := Int.ediv_le_self d h; omega
  by_cases hn : 0 ≤ n
  · have t1 : Int.tdiv n d = n / d := Int.tdiv_eq_ediv_of_nonneg hn
    have t2 : Int.tmod n d = n % d := Int.tmod_eq_emod_of_nonneg hn
    rw [t1, t2, if_neg (by omega), if_neg (by omega), w64id (by omega) (by omega)]
    exact ⟨rfl, rfl, hq0, hq1⟩
  · -- a negative number: the quotient is cut toward 0
    have t3 : Int.tmod n d = -((-n) % d) := by
      have : n = -(-n) := by omega
      rw [this, Int.neg_tmod, Int.tmod_eq_emod_of_nonneg (by omega), Int.neg_neg]
    have t4 : Int.tdiv n d = -((-n) / d) := by
      have : n = -(-n) := by omega
      rw [this, Int.neg_tdiv, Int.tdiv_eq_ediv_of_nonneg (by omega), Int.neg_neg]
    have e3 := Int.mul_ediv_add_emod (-n) d
    have h3 := Int.emod_nonneg (-n) (show d ≠ 0 by omega)
    have h4 := Int.emod_lt_of_pos (-n) (show 0 < d by omega)
    have h5 := Int.ediv_le_self d (show 0 ≤ -n by omega)
    have h6 := Int.ediv_nonneg (show 0 ≤ -n by omega) (show 0 ≤ d by omega)
    by_cases hm : (-n) % d = 0
    · have k1 : n % d = 0 := by
        have : d ∣ n := by
          have := Int.dvd_of_emod_eq_zero hm
          exact (Int.dvd_neg.mp this)
        exact Int.emod_eq_zero_of_dvd this
      have k2 : n / d = -((-n) / d) := by
        have a1 : d * (n / d) = d * (-((-n) / d)) := by rw [Int.mul_neg]; omega
        exact Int.eq_of_mul_eq_mul_left (by omega) a1
      rw [t3, t4, if_neg (by omega), if_neg (by omega), w64id (by omega) (by omega), k2]
      exact ⟨rfl, by omega, by omega, by omega⟩
    · have k1 : n % d = d - (-n) % d := by
        have a1 : n = d * (-((-n) / d) - 1) + (d - (-n) % d) := by
          rw [Int.mul_sub, Int.mul_neg]; omega
        have a2 : (d * (-((-n) / d) - 1) + (d - (-n) % d)) % d = (d - (-n) % d) % d := by
          rw [Int.add_comm, Int.add_mul_emod_self_left]
        rw [← a1] at a2
        rw [a2]
        exact Int.emod_eq_of_lt (by omega) (by omega)
      have k2 : n / d = -((-n) / d) - 1 := by
        have a1 : d * (n / d) = d * (-((-n) / d) - 1) := by rw [Int.mul_sub, Int.mul_neg]; omega
        exact Int.eq_of_mul_eq_mul_left (by omega) a1
      rw [t3, t4, if_pos (by omega), if_pos (by omega), w64id (x := -((-n) / d)) (by omega) (by omega), w64id (x := -((-n) / d) - 1) (by omega) (by omega), k2]
      exact ⟨rfl, by omega, by omega, by omega⟩

theorem floor_eq {k : Nat} (hk : 18446744073709551616 < k) {n d : Int} (n0 : -9223372036854775808 ≤ n) (n1 : n < 9223372036854775808) (d1 : d < 9223372036854775808) :
    rational_Floor.f k n d = some (if validB n d = true then n / d else 0) ∧ cutroomref01_Floor.f k n d = some (if validB n d = true then n / d else 0) := by
  unfold rational_Floor.f cutroomref01_Floor.f
  rw [valid_eq hk n0 n1 d1, rvalid_eq hk n0 n1 d1]
  simp only [Option.bind_some]
  by_cases v : validB n d = true
  · obtain ⟨v1, v2⟩ := valid_bounds v
    rw [if_pos v, if_pos v, if_neg (by omega)]
    exact ⟨(floor_facts v2 n1 v1 d1).1, (floor_facts v2 n1 v1 d1).1⟩
  · rw [if_neg v, if_neg v]; exact ⟨rfl, rfl⟩

theorem round_same {k : Nat} (hk0 : 18446744073709551617 < k) {n d : Int} (n0 : -9223372036854775808 ≤ n) (n1 : n < 9223372036854775808) (d1 : d < 9223372036854775808) :
    ∃ r, rational_Round.f k n d = some r ∧ cutroomref01_Round.f k n d = some r := by
  have hk : 18446744073709551616 < k := by omega
  obtain ⟨f1, f2⟩ := floor_eq hk n0 n1 d1
  unfold rational_Round.f cutroomref01_Round.f
  rw [valid_eq hk n0 n1 d1, rvalid_eq hk n0 n1 d1, f1]
  simp only [Option.bind_some]
  by_cases v : validB n d = true
  · obtain ⟨v1, v2⟩ := valid_bounds v
    obtain ⟨_, g2, g3, g4⟩ := floor_facts v2 n1 v1 d1
    rw [if_pos v] at f2
    have hd0 : ¬ d = 0 := by omega
    simp only [v, if_true, hd0, if_false]
    have e2 := Int.mul_ediv_add_emod n d
    have h1 := Int.emod_nonneg n (show d ≠ 0 by omega)
    have h2 := Int.emod_lt_of_pos n (show 0 < d by omega)
    have p1 : wrap64 (n - wrap64 (n / d * d)) = n % d := by
      have : n / d * d = d * (n / d) := Int.mul_comm _ _
      rw [this]
      unfold wrap64; omega
    have p2 : wrap64 (d - n % d) = d - n % d := w64id (by omega) (by omega)
    rw [p1, p2]
    have key : cutroomref01_Round.j0 k (n % d) n d = if n % d ≥ d - n % d then some (wrap64 (n / d + 1)) else some (n / d) := by
      obtain ⟨k', rfl⟩ : ∃ m, k = m + 1 := ⟨k - 1, by omega⟩
      have f3 : cutroomref01_Floor.f k' n d = some (n / d) := by
        have := (floor_eq (k := k') (by omega) n0 n1 d1).2
        rw [if_pos v] at this
        exact this
      simp only [cutroomref01_Round.j0]
      rw [p2, f3]
      simp only [Option.bind_some]
    have split : (if Int.tmod n d < 0 then cutroomref01_Round.j0 k (wrap64 (Int.tmod n d + d)) n d else cutroomref01_Round.j0 k (Int.tmod n d) n d) = cutroomref01_Round.j0 k (n % d) n d := by
      by_cases c : Int.tmod n d < 0
      · rw [if_pos c] at g2
        rw [if_pos c, g2, w64id (by omega) (by omega)]
      · rw [if_neg c] at g2
        rw [if_neg c, g2]
    rw [split, key]
    by_cases c : n % d ≥ d - n % d
    · rw [if_pos c]; exact ⟨_, rfl, rfl⟩
    · rw [if_neg c]; exact ⟨_, rfl, rfl⟩
  · rw [if_neg v, if_neg v]; exact ⟨_, rfl, rfl⟩

theorem RationalRounds (a b : Int) (ha : (Lit.int .i64 a).wf = true) (hb : (Lit.int .i64 b).wf = true) : ∃ k, cutroomlaw01_RationalRounds.f k a b = some true := by
  obtain ⟨a0, a1⟩ := wf64 ha
  obtain ⟨b0, b1⟩ := wf64 hb
  obtain ⟨k, hk⟩ : ∃ k : Nat, 18446744073709551617 < k := ⟨_, Nat.lt_succ_self _⟩
  refine ⟨k, ?_⟩
  obtain ⟨r, r1, r2⟩ := round_same (k := k) hk a0 a1 b1
  obtain ⟨f1, f2⟩ := floor_eq (k := k) (by omega) a0 a1 b1
  unfold cutroomlaw01_RationalRounds.f
  rw [awake_eq (by omega), f1, f2, r1, r2]
  simp


end Go.Proofs.Ytifemmalcncicaa.Pure
