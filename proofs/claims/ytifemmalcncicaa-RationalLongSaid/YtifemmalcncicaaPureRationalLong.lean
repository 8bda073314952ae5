/- The sample position of every frame at 30000/1001 frames per second is within half a sample of 1601.6 samples for each frame; no condition. -/
import Derived.Test.YtifemmalcncicaaPRationalLongx1
import Derived.Test.YtifemmalcncicaaPRationalLongx2
import Derived.Test.YtifemmalcncicaaPRationalLongx3
import Derived.Test.YtifemmalcncicaaPRationalLongx4
import Derived.Test.YtifemmalcncicaaRatNum
import Derived.Test.YtifemmalcncicaaRatDivNum
import Derived.Lib.ItoaNum
namespace Go.Proofs.Ytifemmalcncicaa.Pure
open Go.RowKit Go.Proofs.Ytifemmalcncicaa.PRationalLong Go.Proofs.YtifemmalcncicaaW.PrintWords Go.Proofs.YtifemmalcncicaaW.PrintLast Go.Proofs.Ytifemmalcncicaa.RatNum Go.Proofs.Ytifemmalcncicaa.RatDivNum

theorem abs_eq {a : Int} (h0 : -9223372036854775808 ≤ a) (h1 : a < 9223372036854775808) : rational_abs.f a = some (mag a) := by
  unfold rational_abs.f mag
  split
  · rw [u64w, u64w]; congr 1; omega
  · rw [u64w]; congr 1; omega
theorem gcd_l0 (b : Nat) : ∀ (k : Nat) (x y : Int), 0 ≤ x → 0 ≤ y → y ≤ b → b < k → rational_gcd.l0 k x y = some (gcdI x y) := by
  induction b with
  | zero =>
    intro k x y hx hy hb hk
    obtain ⟨k, rfl⟩ : ∃ m, k = m + 1 := ⟨k - 1, by omega⟩
    obtain rfl : y = 0 := by omega
    simp only [rational_gcd.l0]
    rw [if_pos trivial, gcdI_zero x hx]
  | succ b ih =>
    intro k x y hx hy hb hk
    obtain ⟨k, rfl⟩ : ∃ m, k = m + 1 := ⟨k - 1, by omega⟩
    simp only [rational_gcd.l0]
    by_cases e : y = 0
    · subst e; rw [if_pos rfl, gcdI_zero x hx]
    · rw [if_neg e]
      have h1 : Int.tmod x y = x % y := Int.tmod_eq_emod_of_nonneg hx
      have h2 := Int.emod_nonneg x e
      have h3 := Int.emod_lt_of_pos x (show 0 < y by omega)
      rw [ih k y (Int.tmod x y) hy (by omega) (by omega) (by omega), gcdI_step hx]
theorem gcd_eq {k : Nat} (hk : 18446744073709551616 < k) {x y : Int} (hx : 0 ≤ x) (hy : 0 ≤ y) (hy1 : y < 18446744073709551616) : rational_gcd.f k x y = some (gcdI x y) := by
  unfold rational_gcd.f
  exact gcd_l0 (18446744073709551615) k x y hx hy (by omega) (by omega)
theorem made_eq {k : Nat} (hk : 18446744073709551616 < k) {neg : Bool} {n d : Int} (hn : 0 ≤ n) (hd : 0 ≤ d) : rational_made.f k neg n d = some (madeS neg n d) := by
  obtain ⟨k, rfl⟩ : ∃ m, k = m + 1 := ⟨k - 1, by omega⟩
  unfold rational_made.f madeS
  by_cases e : n > 9223372036854775807
  · rw [if_pos e, if_pos (Or.inl e)]; simp only [rational_made.j0]; rfl
  · rw [if_neg e]
    by_cases e2 : d > 9223372036854775807
    · rw [if_pos (Or.inr e2), decide_eq_true e2]; simp only [rational_made.j0]; rfl
    · rw [if_neg (by omega), decide_eq_false e2]; simp only [rational_made.j0]
      have a1 : wrap64 n = n := w64id (by omega) (by omega)
      have a2 : wrap64 d = d := w64id (by omega) (by omega)
      have a3 : wrap64 (-n) = -n := w64id (by omega) (by omega)
      rw [a1, a2, a3]
      cases neg <;> rfl
theorem div_id {a g : Int} (h0 : 0 ≤ a) (h1 : a < 18446744073709551616) (hg : 0 < g) : IntKind.u64.wrap (Int.tdiv a g) = a / g ∧ 0 ≤ a / g ∧ a / g ≤ a := by
  have h2 : Int.tdiv a g = a / g := Int.tdiv_eq_ediv_of_nonneg h0
  have h3 : 0 ≤ a / g := Int.ediv_nonneg h0 (by omega)
  have h4 : a / g ≤ a := Int.ediv_le_self g h0
  rw [h2]
  exact ⟨u64id h3 (by omega), h3, h4⟩
/-- What 'Of' gives. -/
def ofS (a b : Int) : Int × Int × Int :=
  if b = 0 then (0, 0, 1) else madeS ((decide (a < 0)) != (decide (b < 0))) (mag a / gcdI (mag a) (mag b)) (mag b / gcdI (mag a) (mag b))
theorem of_eq {k : Nat} (hk : 18446744073709551616 < k) {a b : Int} (a0 : -9223372036854775808 ≤ a) (a1 : a < 9223372036854775808) (b0 : -9223372036854775808 ≤ b) (b1 : b < 9223372036854775808) :
    rational_Of.f k a b = some (ofS a b) := by
  unfold rational_Of.f ofS
  by_cases e : b = 0
  · rw [if_pos e, if_pos e]
  · rw [if_neg e, if_neg e]
    have ma := mag_lt a0 a1; have mb := mag_lt b0 b1
    have na := mag_nonneg a; have nb := mag_nonneg b
    have hg := gcdI_pos (a := mag a) (b := mag b) (by rw [ne_eq, mag_zero]; exact e)
    obtain ⟨q1, q2, q3⟩ := div_id (a := mag a) (g := gcdI (mag a) (mag b)) na (by omega) hg
    obtain ⟨r1, r2, r3⟩ := div_id (a := mag b) (g := gcdI (mag a) (mag b)) nb (by omega) hg
    rw [abs_eq a0 a1, abs_eq b0 b1]
    simp only [Option.bind_some]
    rw [gcd_eq hk na nb (by omega)]
    simp only [Option.bind_some]
    rw [if_neg (by omega), q1, r1, made_eq hk q2 r2]
    rfl
theorem valid_eq {k : Nat} (hk : 18446744073709551616 < k) {n d : Int} (n0 : -9223372036854775808 ≤ n) (n1 : n < 9223372036854775808) (d1 : d < 9223372036854775808) :
    rational_Valid.f k n d = some (validB n d) := by
  unfold rational_Valid.f validB
  by_cases e : d ≥ 1
  · rw [if_pos e, decide_eq_true e]
    by_cases e2 : n ≥ -9223372036854775807
    · rw [if_pos e2, decide_eq_true e2, abs_eq n0 n1]
      simp only [Option.bind_some]
      rw [u64id (by omega) (by omega), gcd_eq hk (mag_nonneg n) (by omega) (by omega)]
      simp
    · rw [if_neg e2, decide_eq_false e2]; simp
  · rw [if_neg e, decide_eq_false e]; simp
theorem awake_eq {k : Nat} (hk : 18446744073709551616 < k) : cutroomlaw01_awake.f k = some true := by
  unfold cutroomlaw01_awake.f
  rw [of_eq hk (by omega) (by omega) (by omega) (by omega), show ofS 6 (-4) = (-3, 2, 0) from by decide]
  simp only [Option.bind_some]
  rw [valid_eq hk (by omega) (by omega) (by omega), show validB (-3) 2 = true from by decide]
  rfl

theorem div64_l1 {Y s a b u u1 : Int} (q1 : Int) (hs : 0 ≤ s) (hY : Y = a * 4294967296 + b) (ha : 2147483648 ≤ a) (ha1 : a < 4294967296) (hb : 0 ≤ b) (hb1 : b < 4294967296) (hu0 : 0 ≤ u) (hu : u < Y) (h0 : 0 ≤ u1) (h1 : u1 < 4294967296) (m : Nat) :
    ∀ (k : Nat) (q r : Int), 2 * m + 2 < k → q * a + r = u → 0 ≤ r → r < 4294967296 → (u * 4294967296 + u1) / Y ≤ q → q ≤ (u * 4294967296 + u1) / Y + m → 0 ≤ q → q ≤ 4294967297 →
      bits_Div64.l1 k Y s a b u1 q1 r u q = some (IntKind.u64.wrap (IntKind.u64.wrap (q1 * 4294967296) + (u * 4294967296 + u1) / Y), shr .u64 (IntKind.u64.wrap (IntKind.u64.wrap (IntKind.u64.wrap (u * 4294967296) + u1) - IntKind.u64.wrap ((u * 4294967296 + u1) / Y * Y))) s) := by
  have hYp : 0 < Y := by omega
  have hlt := quo_lt (u1 := u1) hYp hu h1 h0
  have hnn : 0 ≤ (u * 4294967296 + u1) / Y := Int.ediv_nonneg (by omega) (by omega)
  induction m with
  | zero =>
    intro k q r hk hq r0 r1 g0 g1 q0 q2
    obtain ⟨k, rfl⟩ : ∃ m, k = m + 2 := ⟨k - 2, by omega⟩
    have e : q = (u * 4294967296 + u1) / Y := by omega
    have hn : ¬ (q * b > 4294967296 * r + u1) := by
      rw [guess hY hq]
      have := (quo_le (U := u * 4294967296 + u1) (q := q) hYp).1 (by omega)
      omega
    have qb0 : 0 ≤ q * b := Int.mul_nonneg q0 hb
    have qb1 : q * b ≤ 4294967296 * r + u1 := by omega
    simp only [bits_Div64.l1, bits_Div64.j4]
    rw [if_neg (by omega), u64id (x := q * b) (by omega) (by omega), u64id (x := 4294967296 * r) (by omega) (by omega), u64id (x := 4294967296 * r + u1) (by omega) (by omega), decide_eq_false hn]
    simp only [Bool.false_eq_true, if_false]
    rw [if_pos hs, e]
  | succ m ih =>
    intro k q r hk hq r0 r1 g0 g1 q0 q2
    obtain ⟨k, rfl⟩ : ∃ m, k = m + 2 := ⟨k - 2, by omega⟩
    by_cases c : q ≥ 4294967296 ∨ q * b > 4294967296 * r + u1
    · -- the guess is too great
      have hgt : (u * 4294967296 + u1) / Y < q := by
        rcases c with c | c
        · omega
        · have h3 := (guess hY hq).1 c
          have h4 := fun z => (quo_le (U := u * 4294967296 + u1) (q := q) hYp).1 z
          rcases Int.lt_or_le ((u * 4294967296 + u1) / Y) q with z | z
          · exact z
          · have := h4 z; omega
      have hq' : (q - 1) * a + (r + a) = u := by rw [Int.sub_mul]; omega
      have j : ∀ t : Bool, t = true → bits_Div64.j4 (k + 1) Y s a b u1 q1 r u q t = some (IntKind.u64.wrap (IntKind.u64.wrap (q1 * 4294967296) + (u * 4294967296 + u1) / Y), shr .u64 (IntKind.u64.wrap (IntKind.u64.wrap (IntKind.u64.wrap (u * 4294967296) + u1) - IntKind.u64.wrap ((u * 4294967296 + u1) / Y * Y))) s) := by
        intro t ht
        simp only [bits_Div64.j4]
        rw [if_pos ht, u64id (x := r + a) (by omega) (by omega), u64id (x := q - 1) (by omega) (by omega)]
        by_cases d : r + a ≥ 4294967296
        · have h5 := stop (u1 := u1) hY hb hb1 h0 hq' d (by omega)
          have h6 := (quo_le (U := u * 4294967296 + u1) (q := q - 1) hYp).2 h5
          have e : q - 1 = (u * 4294967296 + u1) / Y := by omega
          rw [if_pos d, if_pos hs, e]
        · rw [if_neg d]
          exact ih k (q - 1) (r + a) (by omega) hq' (by omega) (by omega) (by omega) (by omega) (by omega) (by omega)
      simp only [bits_Div64.l1]
      by_cases c1 : q ≥ 4294967296
      · rw [if_pos c1]; exact j true rfl
      · have c2 := c.resolve_left c1
        have qb0 : 0 ≤ q * b := Int.mul_nonneg q0 hb
        have qb1 : q * b ≤ 4294967295 * 4294967295 := Int.mul_le_mul (by omega) (by omega) hb (by omega)
        rw [if_neg c1, u64id (x := q * b) (by omega) (by omega), u64id (x := 4294967296 * r) (by omega) (by omega), u64id (x := 4294967296 * r + u1) (by omega) (by omega), decide_eq_true c2]
        exact j true rfl
    · have c1 : ¬ q ≥ 4294967296 := fun z => c (.inl z)
      have c2 : ¬ q * b > 4294967296 * r + u1 := fun z => c (.inr z)
      have h3 : q * Y ≤ u * 4294967296 + u1 := Int.not_lt.mp (fun z => c2 ((guess hY hq).2 z))
      have h4 := (quo_le (U := u * 4294967296 + u1) (q := q) hYp).2 h3
      exact (ih (k + 2) q r (by omega) hq r0 r1 g0 (by omega) q0 q2)
theorem div64_l0 {Y s a b u u1 u0 : Int} (hY : Y = a * 4294967296 + b) (ha : 2147483648 ≤ a) (ha1 : a < 4294967296) (hb : 0 ≤ b) (hb1 : b < 4294967296) (hu0 : 0 ≤ u) (hu : u < Y) (h0 : 0 ≤ u1) (h1 : u1 < 4294967296) (m : Nat) :
    ∀ (k : Nat) (q r : Int), 2 * m + 2 < k → q * a + r = u → 0 ≤ r → r < 4294967296 → (u * 4294967296 + u1) / Y ≤ q → q ≤ (u * 4294967296 + u1) / Y + m → 0 ≤ q → q ≤ 4294967297 →
      ∃ k', k ≤ k' + 2 * m + 2 ∧ bits_Div64.l0 k Y s a b u u1 u0 q r = bits_Div64.j2 k' Y s a b u u1 u0 ((u * 4294967296 + u1) / Y) := by
  have hYp : 0 < Y := by omega
  have hlt := quo_lt (u1 := u1) hYp hu h1 h0
  have hnn : 0 ≤ (u * 4294967296 + u1) / Y := Int.ediv_nonneg (by omega) (by omega)
  induction m with
  | zero =>
    intro k q r hk hq r0 r1 g0 g1 q0 q2
    obtain ⟨k, rfl⟩ : ∃ m, k = m + 2 := ⟨k - 2, by omega⟩
    have e : q = (u * 4294967296 + u1) / Y := by omega
    have hn : ¬ (q * b > 4294967296 * r + u1) := by
      rw [guess hY hq]
      have := (quo_le (U := u * 4294967296 + u1) (q := q) hYp).1 (by omega)
      omega
    have qb0 : 0 ≤ q * b := Int.mul_nonneg q0 hb
    have qb1 : q * b ≤ 4294967296 * r + u1 := by omega
    refine ⟨k, by omega, ?_⟩
    simp only [bits_Div64.l0, bits_Div64.j1]
    rw [if_neg (by omega), u64id (x := q * b) (by omega) (by omega), u64id (x := 4294967296 * r) (by omega) (by omega), u64id (x := 4294967296 * r + u1) (by omega) (by omega), decide_eq_false hn]
    simp only [Bool.false_eq_true, if_false]
    rw [e]
  | succ m ih =>
    intro k q r hk hq r0 r1 g0 g1 q0 q2
    obtain ⟨k, rfl⟩ : ∃ m, k = m + 2 := ⟨k - 2, by omega⟩
    by_cases c : q ≥ 4294967296 ∨ q * b > 4294967296 * r + u1
    · have hgt : (u * 4294967296 + u1) / Y < q := by
        rcases c with c | c
        · omega
        · have h3 := (guess hY hq).1 c
          have h4 := fun z => (quo_le (U := u * 4294967296 + u1) (q := q) hYp).1 z
          rcases Int.lt_or_le ((u * 4294967296 + u1) / Y) q with z | z
          · exact z
          · have := h4 z; omega
      have hq' : (q - 1) * a + (r + a) = u := by rw [Int.sub_mul]; omega
      have j : ∀ t : Bool, t = true → ∃ k', k + 2 ≤ k' + 2 * (m + 1) + 2 ∧ bits_Div64.j1 (k + 1) Y s a b u u1 u0 q r t = bits_Div64.j2 k' Y s a b u u1 u0 ((u * 4294967296 + u1) / Y) := by
        intro t ht
        simp only [bits_Div64.j1]
        rw [if_pos ht, u64id (x := r + a) (by omega) (by omega), u64id (x := q - 1) (by omega) (by omega)]
        by_cases d : r + a ≥ 4294967296
        · have h5 := stop (u1 := u1) hY hb hb1 h0 hq' d (by omega)
          have h6 := (quo_le (U := u * 4294967296 + u1) (q := q - 1) hYp).2 h5
          have e : q - 1 = (u * 4294967296 + u1) / Y := by omega
          rw [if_pos d, e]
          exact ⟨k, by omega, rfl⟩
        · rw [if_neg d]
          obtain ⟨k', h7, h8⟩ := ih k (q - 1) (r + a) (by omega) hq' (by omega) (by omega) (by omega) (by omega) (by omega) (by omega)
          exact ⟨k', by omega, h8⟩
      simp only [bits_Div64.l0]
      by_cases c1 : q ≥ 4294967296
      · rw [if_pos c1]; exact j true rfl
      · have c2 := c.resolve_left c1
        have qb0 : 0 ≤ q * b := Int.mul_nonneg q0 hb
        have qb1 : q * b ≤ 4294967295 * 4294967295 := Int.mul_le_mul (by omega) (by omega) hb (by omega)
        rw [if_neg c1, u64id (x := q * b) (by omega) (by omega), u64id (x := 4294967296 * r) (by omega) (by omega), u64id (x := 4294967296 * r + u1) (by omega) (by omega), decide_eq_true c2]
        exact j true rfl
    · have c1 : ¬ q ≥ 4294967296 := fun z => c (.inl z)
      have c2 : ¬ q * b > 4294967296 * r + u1 := fun z => c (.inr z)
      have h3 : q * Y ≤ u * 4294967296 + u1 := Int.not_lt.mp (fun z => c2 ((guess hY hq).2 z))
      have h4 := (quo_le (U := u * 4294967296 + u1) (q := q) hYp).2 h3
      obtain ⟨k', h7, h8⟩ := ih (k + 2) q r (by omega) hq r0 r1 g0 (by omega) q0 q2
      exact ⟨k', by omega, h8⟩
theorem div64_j2 {Y s a b u u1 u0 : Int} (hs : 0 ≤ s) (hY : Y = a * 4294967296 + b) (ha : 2147483648 ≤ a) (ha1 : a < 4294967296) (hb : 0 ≤ b) (hb1 : b < 4294967296) (hu0 : 0 ≤ u) (hu : u < Y) (h0 : 0 ≤ u1) (h1 : u1 < 4294967296) (z0 : 0 ≤ u0) (z1 : u0 < 4294967296)
    {k : Nat} (hk : 100 < k) : bits_Div64.j2 k Y s a b u u1 u0 ((u * 4294967296 + u1) / Y) =
      some (((u * 4294967296 + u1) * 4294967296 + u0) / Y, shr .u64 (((u * 4294967296 + u1) * 4294967296 + u0) % Y) s) := by
  obtain ⟨k, rfl⟩ : ∃ m, k = m + 1 := ⟨k - 1, by omega⟩
  have hYp : 0 < Y := by omega
  have hY2 : Y < 18446744073709551616 := by omega
  have hlt := quo_lt (u1 := u1) hYp hu h1 h0
  have hnn : 0 ≤ (u * 4294967296 + u1) / Y := Int.ediv_nonneg (by omega) (by omega)
  obtain ⟨e1, e2⟩ := halves (U := u * 4294967296 + u1) (u0 := u0) hYp 4294967296
  rw [e1, e2]
  have d := Int.mul_ediv_add_emod (u * 4294967296 + u1) Y
  have m0 := Int.emod_nonneg (u * 4294967296 + u1) (show Y ≠ 0 by omega)
  have m1 := Int.emod_lt_of_pos (u * 4294967296 + u1) hYp
  rw [Int.mul_comm Y] at d
  generalize (u * 4294967296 + u1) % Y = v at d m0 m1 ⊢
  generalize (u * 4294967296 + u1) / Y = q1 at d hlt hnn ⊢
  have w1 : IntKind.u64.wrap (IntKind.u64.wrap (IntKind.u64.wrap (u * 4294967296) + u1) - IntKind.u64.wrap (q1 * Y)) = v := by
    rw [u64w, u64w, u64w, u64w]
    generalize q1 * Y = t at d
    omega
  have hlt2 := quo_lt (u := v) (u1 := u0) hYp m1 z1 z0
  have hnn2 : 0 ≤ (v * 4294967296 + u0) / Y := Int.ediv_nonneg (by omega) (by omega)
  obtain ⟨f1, f2, f3, f4⟩ := first (u := v) (u1 := u0) hY ha ha1 hb hb1 m0 m1 z0 z1
  have f5 := Int.emod_nonneg v (show a ≠ 0 by omega)
  have f6 := Int.emod_lt_of_pos v (show 0 < a by omega)
  have f7 : 0 ≤ v / a * a := Int.mul_nonneg f3 (by omega)
  simp only [bits_Div64.j2]
  rw [if_neg (by omega), w1, Int.tdiv_eq_ediv_of_nonneg m0, u64id (x := v / a) (by omega) (by omega), u64id (x := v / a * a) (by omega) (by omega), u64id (x := v - v / a * a) (by omega) (by omega)]
  have e3 : v - v / a * a = v % a := by omega
  rw [e3]
  -- the guess is at most two too great: rounds enough
  have small : v / a ≤ (v * 4294967296 + u0) / Y + 3 := by
    rcases Int.lt_or_le ((v * 4294967296 + u0) / Y + 2) (v / a) with c | c
    · exfalso
      have c2 : (v / a - 2) * Y > v * 4294967296 + u0 := by
        rcases Int.lt_or_le (v * 4294967296 + u0) ((v / a - 2) * Y) with z | z
        · omega
        · have := (quo_le (U := v * 4294967296 + u0) (q := v / a - 2) hYp).2 z; omega
      have c3 : (v / a - 2) * Y = (v / a * a) * 4294967296 + v / a * b - 2 * Y := by
        rw [Int.sub_mul, hY, Int.mul_add, ← Int.mul_assoc]
      have c4 : v / a * b ≤ 4294967297 * b := Int.mul_le_mul_of_nonneg_right f2 hb
      omega
    · omega
  rw [div64_l1 q1 hs hY ha ha1 hb hb1 m0 m1 z0 z1 3 k (v / a) (v % a) (by omega) f4 f5 (by omega) f1 (by omega) f3 f2]
  have d2 := Int.mul_ediv_add_emod (v * 4294967296 + u0) Y
  have n0 := Int.emod_nonneg (v * 4294967296 + u0) (show Y ≠ 0 by omega)
  have n1 := Int.emod_lt_of_pos (v * 4294967296 + u0) hYp
  rw [Int.mul_comm Y] at d2
  have w2 : IntKind.u64.wrap (IntKind.u64.wrap (IntKind.u64.wrap (v * 4294967296) + u0) - IntKind.u64.wrap ((v * 4294967296 + u0) / Y * Y)) = (v * 4294967296 + u0) % Y := by
    rw [u64w, u64w, u64w, u64w]
    generalize (v * 4294967296 + u0) / Y * Y = t at d2
    omega
  rw [w2, u64id (x := q1 * 4294967296) (by omega) (by omega), u64id (x := q1 * 4294967296 + (v * 4294967296 + u0) / Y) (by omega) (by omega)]

theorem pow_cast (s : Nat) : ((2 ^ s : Nat) : Int) = 2 ^ s := by rw [Int.natCast_pow]; rfl
theorem pow_lt {n s : Nat} (h : n * 2 ^ s < 2 ^ 64) : (n : Int) * 2 ^ s < 18446744073709551616 := by
  rw [← pow_cast, ← Int.natCast_mul]
  exact Int.ofNat_lt.mpr h
theorem pow_le {n s : Nat} (h : 2 ^ 63 ≤ n * 2 ^ s) : 9223372036854775808 ≤ (n : Int) * 2 ^ s := by
  rw [← pow_cast, ← Int.natCast_mul]
  exact Int.ofNat_le.mpr h
theorem lz_facts {y : Int} (h0 : 0 < y) (h1 : y < 18446744073709551616) : ∃ s : Nat, s ≤ 63 ∧ bits_LeadingZeros64.f y = some (s : Int) ∧ y * 2 ^ s < 18446744073709551616 ∧ 9223372036854775808 ≤ y * 2 ^ s := by
  obtain ⟨n, rfl⟩ := Int.eq_ofNat_of_zero_le (show 0 ≤ y by omega)
  obtain ⟨b0, b1, b2⟩ := Lib.bitLenAux_bounds 64 n (by omega) (by omega)
  have b3 : Lib.bitLen n = Lib.bitLenAux 64 n := rfl
  have b4 : Lib.bitLenAux 64 n ≤ 64 := by
    rcases Nat.lt_or_ge 64 (Lib.bitLenAux 64 n) with c | c
    · have : 2 ^ 64 ≤ 2 ^ (Lib.bitLenAux 64 n - 1) := Nat.pow_le_pow_right (by decide) (by omega)
      omega
    · exact c
  refine ⟨64 - Lib.bitLenAux 64 n, by omega, ?_, ?_, ?_⟩
  · unfold bits_LeadingZeros64.f
    rw [if_pos ⟨by omega, by omega⟩, Int.toNat_natCast, b3]
    congr 1; omega
  · have h : n * 2 ^ (64 - Lib.bitLenAux 64 n) < 2 ^ Lib.bitLenAux 64 n * 2 ^ (64 - Lib.bitLenAux 64 n) := Nat.mul_lt_mul_of_pos_right b2 (Nat.two_pow_pos _)
    rw [← Nat.pow_add, show Lib.bitLenAux 64 n + (64 - Lib.bitLenAux 64 n) = 64 from by omega] at h
    exact pow_lt h
  · have h : 2 ^ (Lib.bitLenAux 64 n - 1) * 2 ^ (64 - Lib.bitLenAux 64 n) ≤ n * 2 ^ (64 - Lib.bitLenAux 64 n) := Nat.mul_le_mul_right _ b1
    rw [← Nat.pow_add, show Lib.bitLenAux 64 n - 1 + (64 - Lib.bitLenAux 64 n) = 63 from by omega] at h
    exact pow_le h

theorem div64_eq {hi lo y : Int} {k : Nat} (hk : 1000 < k) (h0 : 0 ≤ hi) (h1 : hi < y) (l0 : 0 ≤ lo) (l1 : lo < 18446744073709551616) (y1 : y < 18446744073709551616) :
    bits_Div64.f k hi lo y = some ((hi * 18446744073709551616 + lo) / y, (hi * 18446744073709551616 + lo) % y) := by
  unfold bits_Div64.f
  rw [if_neg (by omega), if_neg (by omega)]
  by_cases e : hi = 0
  · subst e
    have d0 := Int.ediv_nonneg l0 (show 0 ≤ y by omega)
    have d1 := Int.ediv_le_self y l0
    rw [if_pos rfl, Int.tdiv_eq_ediv_of_nonneg l0, Int.tmod_eq_emod_of_nonneg l0, u64id (x := lo / y) d0 (by omega), Int.zero_mul, Int.zero_add]
  · rw [if_neg e]
    obtain ⟨s, s63, hs, hp1, hp0⟩ := lz_facts (y := y) (by omega) y1
    rw [hs]
    simp only [Option.bind_some]
    have w1 : IntKind.u64.wrap (s : Int) = s := u64id (by omega) (by omega)
    have w2 : IntKind.u64.wrap (64 - (s : Int)) = ((64 - s : Nat) : Int) := by rw [u64id (by omega) (by omega)]; omega
    rw [w1, w2, if_pos (by omega), if_pos (by omega)]
    have pp : (0 : Int) < 2 ^ s := by exact_mod_cast Nat.two_pow_pos s
    have hhp : hi * 2 ^ s < y * 2 ^ s := Int.mul_lt_mul_of_pos_right h1 pp
    have hhp0 : 0 ≤ hi * 2 ^ s := Int.mul_nonneg h0 (by omega)
    have shy : shl .u64 y (s : Int) = y * 2 ^ s := by
      unfold shl
      rw [Int.toNat_natCast, show IntKind.u64.bits = 64 from rfl, Nat.min_eq_left (by omega), u64id (by omega) hp1]
    have shh : shl .u64 hi (s : Int) = hi * 2 ^ s := by
      unfold shl
      rw [Int.toNat_natCast, show IntKind.u64.bits = 64 from rfl, Nat.min_eq_left (by omega), u64id hhp0 (by omega)]
    have shlo : shl .u64 lo (s : Int) = (lo * 2 ^ s) % 18446744073709551616 := by
      unfold shl
      rw [Int.toNat_natCast, show IntKind.u64.bits = 64 from rfl, Nat.min_eq_left (by omega), u64w]
    have pq : (2 : Int) ^ s * 2 ^ (64 - s) = 18446744073709551616 := by
      rw [← Int.pow_add, show s + (64 - s) = 64 from by omega]; rfl
    have pq0 : (0 : Int) < 2 ^ (64 - s) := by exact_mod_cast Nat.two_pow_pos _
    have shr_lo : shr .u64 lo ((64 - s : Nat) : Int) = lo * 2 ^ s / 18446744073709551616 := by
      unfold shr
      rw [Int.toNat_natCast, show IntKind.u64.bits = 64 from rfl, Nat.min_eq_left (by omega), ← pq, Int.mul_comm lo, Int.mul_ediv_mul_of_pos _ _ pp]
    have lop0 : 0 ≤ lo * 2 ^ s := Int.mul_nonneg l0 (by omega)
    have lop1 : lo * 2 ^ s / 18446744073709551616 < 2 ^ s := by
      refine Int.ediv_lt_of_lt_mul (by omega) ?_
      rw [Int.mul_comm (2 ^ s)]
      exact Int.mul_lt_mul_of_pos_right l1 pp
    have lop2 : 0 ≤ lo * 2 ^ s / 18446744073709551616 := Int.ediv_nonneg lop0 (by omega)
    have orr : Go.bits .or .u64 (hi * 2 ^ s) (lo * 2 ^ s / 18446744073709551616) = hi * 2 ^ s + lo * 2 ^ s / 18446744073709551616 := by
      obtain ⟨x, hx⟩ := Int.eq_ofNat_of_zero_le lop2
      obtain ⟨h, rfl⟩ := Int.eq_ofNat_of_zero_le h0
      rw [hx]
      have hx1 : x < 2 ^ s := by rw [hx] at lop1; exact_mod_cast lop1
      have c1 : (h : Int) * 2 ^ s = ((h * 2 ^ s : Nat) : Int) := by push_cast; rfl
      rw [c1]
      have b1 : h * 2 ^ s < 2 ^ 64 := by
        have : (h : Int) * 2 ^ s < 18446744073709551616 := by omega
        rw [c1] at this
        have t : h * 2 ^ s < 18446744073709551616 := by omega
        exact t
      have b2 : x < 2 ^ 64 := Nat.lt_of_lt_of_le hx1 (Nat.pow_le_pow_right (by decide) (by omega))
      rw [(bits_nat .u64 64 (by decide) (fun n a b => u64id a (by simpa using b)) _ _ b1 b2).2]
      have := Nat.two_pow_add_eq_or_of_lt hx1 h
      rw [Nat.mul_comm h, ← this]
      push_cast; rfl
    rw [shy, shh, shlo, shr_lo, orr]
    have andm : ∀ x : Int, 0 ≤ x → x < 18446744073709551616 → Go.bits .and .u64 x 4294967295 = x % 4294967296 := fun x a b =>
      bits_mask .u64 64 (by decide) (fun n a b => u64id a (by simpa using b)) 32 (by decide) x a (by simpa using b)
    -- the scaled number
    have e0 := Int.mul_ediv_add_emod (lo * 2 ^ s) 18446744073709551616
    have t0 := Int.emod_nonneg (lo * 2 ^ s) (show (18446744073709551616 : Int) ≠ 0 by decide)
    have t1 := Int.emod_lt_of_pos (lo * 2 ^ s) (show (0 : Int) < 18446744073709551616 by decide)
    have total : (hi * 18446744073709551616 + lo) * 2 ^ s = (hi * 2 ^ s + lo * 2 ^ s / 18446744073709551616) * 18446744073709551616 + lo * 2 ^ s % 18446744073709551616 := by
      rw [Int.add_mul, Int.add_mul, Int.mul_assoc, Int.mul_comm 18446744073709551616 (2 ^ s), ← Int.mul_assoc]
      omega
    have uY : hi * 2 ^ s + lo * 2 ^ s / 18446744073709551616 < y * 2 ^ s := by
      have : (hi + 1) * 2 ^ s ≤ y * 2 ^ s := Int.mul_le_mul_of_nonneg_right (by omega) (by omega)
      rw [Int.add_mul] at this
      omega
    obtain ⟨sc1, sc2⟩ := scaled (n := hi * 18446744073709551616 + lo) (y := y) pp
    rw [total] at sc1 sc2
    rw [andm _ (by omega) hp1, andm _ t0 t1]
    have k1 : y * 2 ^ s / 4294967296 < 4294967296 := Int.ediv_lt_of_lt_mul (by omega) (by omega)
    have k0 : 2147483648 ≤ y * 2 ^ s / 4294967296 := by omega
    have u0 : 0 ≤ hi * 2 ^ s + lo * 2 ^ s / 18446744073709551616 := by omega
    generalize hi * 2 ^ s + lo * 2 ^ s / 18446744073709551616 = u at *
    generalize lo * 2 ^ s % 18446744073709551616 = v at *
    generalize hYY : y * 2 ^ s = Y at *
    rw [if_neg (by omega)]
    obtain ⟨f1, f2, f3, f4⟩ := first (Y := Y) (a := Y / 4294967296) (b := Y % 4294967296) (u := u) (u1 := v / 4294967296) (by omega) k0 k1 (by omega) (by omega) u0 uY (by omega) (by omega)
    have f5 := Int.emod_nonneg u (show Y / 4294967296 ≠ 0 by omega)
    have f6 := Int.emod_lt_of_pos u (show 0 < Y / 4294967296 by omega)
    have f7 : 0 ≤ u / (Y / 4294967296) * (Y / 4294967296) := Int.mul_nonneg f3 (by omega)
    rw [Int.tdiv_eq_ediv_of_nonneg u0, u64id (x := u / (Y / 4294967296)) (by omega) (by omega), u64id (x := u / (Y / 4294967296) * (Y / 4294967296)) (by omega) (by omega), u64id (x := u - u / (Y / 4294967296) * (Y / 4294967296)) (by omega) (by omega)]
    have e3 : u - u / (Y / 4294967296) * (Y / 4294967296) = u % (Y / 4294967296) := by omega
    rw [e3]
    have small : u / (Y / 4294967296) ≤ (u * 4294967296 + v / 4294967296) / Y + 3 := by
      rcases Int.lt_or_le ((u * 4294967296 + v / 4294967296) / Y + 2) (u / (Y / 4294967296)) with c | c
      · exfalso
        have c2 : (u / (Y / 4294967296) - 2) * Y > u * 4294967296 + v / 4294967296 := by
          rcases Int.lt_or_le (u * 4294967296 + v / 4294967296) ((u / (Y / 4294967296) - 2) * Y) with z | z
          · omega
          · have := (quo_le (U := u * 4294967296 + v / 4294967296) (q := u / (Y / 4294967296) - 2) (by omega)).2 z; omega
        have hYe : Y = Y / 4294967296 * 4294967296 + Y % 4294967296 := by omega
        have c3 : u / (Y / 4294967296) * Y = (u / (Y / 4294967296) * (Y / 4294967296)) * 4294967296 + u / (Y / 4294967296) * (Y % 4294967296) := by
          conv => lhs; rw [hYe]
          rw [Int.mul_add, ← Int.mul_assoc]
          congr 2 <;> (congr 1; rw [← hYe])
        rw [Int.sub_mul] at c2
        have c4 : u / (Y / 4294967296) * (Y % 4294967296) ≤ 4294967297 * (Y % 4294967296) := Int.mul_le_mul_of_nonneg_right f2 (by omega)
        omega
      · omega
    obtain ⟨k', hk', hl⟩ := div64_l0 (Y := Y) (s := (s : Int)) (a := Y / 4294967296) (b := Y % 4294967296) (u := u) (u1 := v / 4294967296) (u0 := v % 4294967296) (by omega) k0 k1 (by omega) (by omega) u0 uY (by omega) (by omega) 3 k (u / (Y / 4294967296)) (u % (Y / 4294967296))
      (by omega) f4 f5 (by omega) f1 (by omega) f3 f2
    rw [hl, div64_j2 (s := (s : Int)) (by omega) (by omega) k0 k1 (by omega) (by omega) u0 uY (by omega) (by omega) (by omega) (by omega) (by omega)]
    have e4 : (u * 4294967296 + v / 4294967296) * 4294967296 + v % 4294967296 = u * 18446744073709551616 + v := by omega
    rw [e4, sc1]
    unfold shr
    rw [Int.toNat_natCast, show IntKind.u64.bits = 64 from rfl, Nat.min_eq_left (by omega), sc2]

theorem mul64_eq {a b : Int} (a0 : 0 ≤ a) (a1 : a < 18446744073709551616) (b0 : 0 ≤ b) (b1 : b < 18446744073709551616) : bits_Mul64.f a b = some (a * b / 18446744073709551616, a * b % 18446744073709551616) := by
  unfold bits_Mul64.f
  rw [if_pos ⟨a0, a1, b0, b1⟩]
/-- A product of two words: its two words. -/
theorem words {a b : Int} (a0 : 0 ≤ a) (a1 : a < 18446744073709551616) (b0 : 0 ≤ b) (b1 : b < 18446744073709551616) :
    0 ≤ a * b / 18446744073709551616 ∧ a * b / 18446744073709551616 < 18446744073709551616 ∧ 0 ≤ a * b % 18446744073709551616 ∧ a * b % 18446744073709551616 < 18446744073709551616 ∧ a * b / 18446744073709551616 * 18446744073709551616 + a * b % 18446744073709551616 = a * b ∧ 0 ≤ a * b := by
  have h0 : 0 ≤ a * b := Int.mul_nonneg a0 b0
  have h1 : a * b ≤ 18446744073709551615 * 18446744073709551615 := Int.mul_le_mul (by omega) (by omega) b0 (by omega)
  generalize a * b = c at *
  omega
theorem times_eq {a b : Int} (a0 : -9223372036854775808 ≤ a) (a1 : a < 9223372036854775808) (b0 : 0 ≤ b) (b1 : b < 18446744073709551616) : rational_times.f a b = some (decide (a < 0), mag a * b / 18446744073709551616, mag a * b % 18446744073709551616) := by
  unfold rational_times.f
  have := mag_lt a0 a1; have := mag_nonneg a
  rw [abs_eq a0 a1]
  simp only [Option.bind_some]
  rw [mul64_eq (by omega) (by omega) b0 b1]
  rfl

/-- What a division of a signed number gives, rounded down. -/
def floorS (neg : Bool) (T d : Int) : Int × Int × Bool :=
  if T / d ≥ 18446744073709551616 then (0, 0, false)
  else if neg = true then (if T / d > 9223372036854775808 ∨ T / d = 9223372036854775808 ∧ T % d > 0 then (0, 0, false) else if T % d > 0 then (-(T / d + 1), d - T % d, true) else (-(T / d), T % d, true))
  else (wrap64 (T / d), T % d, decide (T / d ≤ 9223372036854775807))
theorem hi_ge {hi lo d : Int} (l0 : 0 ≤ lo) (l1 : lo < 18446744073709551616) (d0 : 0 < d) : hi ≥ d ↔ (hi * 18446744073709551616 + lo) / d ≥ 18446744073709551616 := by
  rw [ge_iff_le, ge_iff_le, Int.le_ediv_iff_mul_le d0]
  omega
theorem floor_j0 {k : Nat} (hk : 0 < k) {d q r : Int} (q0 : 0 ≤ q) (q1 : q ≤ 9223372036854775808) (r1 : r < d) (d1 : d < 18446744073709551616) (b : Bool) (hb : b = false → ¬ (q = 9223372036854775808 ∧ r > 0)) :
    rational_wide_floor.j0 k d q r b = some (if b = true then (0, 0, false) else if r > 0 then (-(q + 1), d - r, true) else (-q, r, true)) := by
  obtain ⟨k, rfl⟩ : ∃ m, k = m + 1 := ⟨k - 1, by omega⟩
  simp only [rational_wide_floor.j0]
  cases b with
  | true => rfl
  | false =>
    have h := hb rfl
    simp only [Bool.false_eq_true, if_false]
    by_cases c : r > 0
    · rw [if_pos c, if_pos c, u64id (x := q + 1) (by omega) (by omega), u64id (x := d - r) (by omega) (by omega)]
      congr 2
      unfold wrap64; omega
    · rw [if_neg c, if_neg c]
      congr 2
      unfold wrap64; omega
theorem wfloor_eq {k : Nat} (hk : 1000 < k) (neg : Bool) {hi lo d : Int} (h0 : 0 ≤ hi) (l0 : 0 ≤ lo) (l1 : lo < 18446744073709551616) (d0 : 0 < d) (d1 : d < 18446744073709551616) :
    rational_wide_floor.f k neg hi lo d = some (floorS neg (hi * 18446744073709551616 + lo) d) := by
  unfold rational_wide_floor.f floorS
  have hg := hi_ge (hi := hi) l0 l1 d0
  by_cases c : hi ≥ d
  · rw [if_pos c, if_pos (hg.1 c)]
  · rw [if_neg c, if_neg (fun z => c (hg.2 z)), div64_eq hk h0 (by omega) l0 l1 d1]
    simp only [Option.bind_some]
    have t0 : 0 ≤ (hi * 18446744073709551616 + lo) / d := Int.ediv_nonneg (by omega) (by omega)
    have t1 := Int.emod_nonneg (hi * 18446744073709551616 + lo) (show d ≠ 0 by omega)
    have t2 := Int.emod_lt_of_pos (hi * 18446744073709551616 + lo) d0
    generalize (hi * 18446744073709551616 + lo) / d = q at *
    generalize (hi * 18446744073709551616 + lo) % d = r at *
    cases neg with
    | false => rfl
    | true =>
      simp only [if_true]
      by_cases c1 : q > 9223372036854775808
      · rw [if_pos c1, if_pos (.inl c1)]
        obtain ⟨k, rfl⟩ : ∃ m, k = m + 1 := ⟨k - 1, by omega⟩
        rfl
      · rw [if_neg c1]
        by_cases c2 : q = 9223372036854775808
        · rw [if_pos c2, floor_j0 (by omega) t0 (by omega) t2 d1 _ (by intro z; simp at z; omega)]
          by_cases c3 : r > 0
          · rw [if_pos (by simpa using c3), if_pos (.inr ⟨c2, c3⟩)]
          · have nc : ¬ (q > 9223372036854775808 ∨ q = 9223372036854775808 ∧ r > 0) := fun z => Or.elim z c1 (fun y => c3 y.2)
            rw [if_neg nc]
            simp only [c3, decide_false, Bool.false_eq_true, if_false]
        · have nc : ¬ (q > 9223372036854775808 ∨ q = 9223372036854775808 ∧ r > 0) := fun z => Or.elim z c1 (fun y => c2 y.1)
          rw [if_neg c2, floor_j0 (by omega) t0 (by omega) t2 d1 false (fun _ z => c2 z.1)]
          rw [if_neg nc]
          simp only [Bool.false_eq_true, if_false]

theorem add_words {h1 l1 h2 l2 : Int} (a0 : 0 ≤ h1) (b0 : 0 ≤ l1) (b1 : l1 < 18446744073709551616) (c0 : 0 ≤ h2) (d0 : 0 ≤ l2) (d1 : l2 < 18446744073709551616)
    (hs : (h1 * 18446744073709551616 + l1) + (h2 * 18446744073709551616 + l2) < 340282366920938463463374607431768211456) :
    0 ≤ (h1 + h2 + (l1 + l2) / 18446744073709551616) % 18446744073709551616 ∧ 0 ≤ (l1 + l2) % 18446744073709551616 ∧ (l1 + l2) % 18446744073709551616 < 18446744073709551616 ∧ (h1 + h2 + (l1 + l2) / 18446744073709551616) % 18446744073709551616 < 18446744073709551616 ∧
    (h1 + h2 + (l1 + l2) / 18446744073709551616) % 18446744073709551616 * 18446744073709551616 + (l1 + l2) % 18446744073709551616 = (h1 * 18446744073709551616 + l1) + (h2 * 18446744073709551616 + l2) := by
  omega
theorem sub_words {h1 l1 h2 l2 : Int} (a1 : h1 < 18446744073709551616) (b0 : 0 ≤ l1) (b1 : l1 < 18446744073709551616) (c0 : 0 ≤ h2) (d0 : 0 ≤ l2) (d1 : l2 < 18446744073709551616)
    (hs : h2 * 18446744073709551616 + l2 ≤ h1 * 18446744073709551616 + l1) :
    0 ≤ (h1 + 18446744073709551616 - h2 - (if l1 < l2 then 1 else 0)) % 18446744073709551616 ∧ 0 ≤ (l1 + 18446744073709551616 - l2) % 18446744073709551616 ∧ (l1 + 18446744073709551616 - l2) % 18446744073709551616 < 18446744073709551616 ∧ (h1 + 18446744073709551616 - h2 - (if l1 < l2 then 1 else 0)) % 18446744073709551616 < 18446744073709551616 ∧
    (h1 + 18446744073709551616 - h2 - (if l1 < l2 then 1 else 0)) % 18446744073709551616 * 18446744073709551616 + (l1 + 18446744073709551616 - l2) % 18446744073709551616 = (h1 * 18446744073709551616 + l1) - (h2 * 18446744073709551616 + l2) := by
  split <;> omega
theorem lex {h1 l1 h2 l2 : Int} (b0 : 0 ≤ l1) (b1 : l1 < 18446744073709551616) (d0 : 0 ≤ l2) (d1 : l2 < 18446744073709551616) :
    (h1 < h2 ∨ h1 = h2 ∧ l1 < l2) ↔ h1 * 18446744073709551616 + l1 < h2 * 18446744073709551616 + l2 := by omega
/-- The division of a signed number, read as one of whole numbers. -/
theorem floorS_spec {neg : Bool} {m d T : Int} (m0 : 0 ≤ m) (d0 : 0 < d) (hT : T = if neg = true then -m else m) :
    ((floorS neg m d).2.2 = true ↔ (-9223372036854775808 ≤ T / d ∧ T / d ≤ 9223372036854775807)) ∧ ((floorS neg m d).2.2 = true → (floorS neg m d).1 = T / d) := by
  have t0 : 0 ≤ m / d := Int.ediv_nonneg m0 (by omega)
  have t1 := Int.emod_nonneg m (show d ≠ 0 by omega)
  have t2 := Int.emod_lt_of_pos m d0
  have e := Int.mul_ediv_add_emod m d
  cases neg with
  | false =>
    simp only [Bool.false_eq_true, if_false] at hT
    subst hT
    unfold floorS
    by_cases c : T / d ≥ 18446744073709551616
    · rw [if_pos c]; simp only [Bool.false_eq_true, false_iff]; exact ⟨by omega, (fun z => by cases z)⟩
    · rw [if_neg c]; simp only [Bool.false_eq_true, if_false, decide_eq_true_eq]
      exact ⟨by omega, fun z => w64id (by omega) (by omega)⟩
  | true =>
    simp only [if_true] at hT
    have key : T / d = if m % d > 0 then -(m / d + 1) else -(m / d) := by
      by_cases c : m % d > 0
      · rw [if_pos c, hT]
        have h : -m = d * (-(m / d + 1)) + (d - m % d) := by rw [Int.mul_neg, Int.mul_add]; omega
        have z : (d - m % d) / d = 0 := Int.ediv_eq_zero_of_lt (by omega) (by omega)
        rw [h, Int.mul_add_ediv_left _ _ (by omega), z]; omega
      · rw [if_neg c, hT]
        have h : -m = d * (-(m / d)) := by rw [Int.mul_neg]; omega
        rw [h, Int.mul_ediv_cancel_left _ (by omega)]
    rw [key]
    unfold floorS
    generalize m / d = q at *
    generalize m % d = r at *
    by_cases c : q ≥ 18446744073709551616
    · rw [if_pos c]
      exact ⟨⟨(fun z => by cases z), (fun z => by split at z <;> omega)⟩, (fun z => by cases z)⟩
    · rw [if_neg c, if_pos rfl]
      by_cases c2 : q > 9223372036854775808 ∨ q = 9223372036854775808 ∧ r > 0
      · rw [if_pos c2]
        exact ⟨⟨(fun z => by cases z), (fun z => by split at z <;> omega)⟩, (fun z => by cases z)⟩
      · rw [if_neg c2]
        by_cases c3 : r > 0
        · rw [if_pos c3, if_pos c3]
          exact ⟨⟨fun _ => by omega, fun _ => rfl⟩, fun _ => rfl⟩
        · rw [if_neg c3, if_neg c3]
          exact ⟨⟨fun _ => by omega, fun _ => rfl⟩, fun _ => rfl⟩
/-- May the number be a number of units per second? -/
def scaleB (n d : Int) : Bool := validB n d && (decide (n > 0) && (decide (n ≤ 2147483648) && decide (d ≤ 2147483648)))
theorem scaleB_bounds {n d : Int} (h : scaleB n d = true) : 1 ≤ n ∧ n ≤ 2147483648 ∧ 1 ≤ d ∧ d ≤ 2147483648 := by
  unfold scaleB at h
  simp only [Bool.and_eq_true, decide_eq_true_eq] at h
  have := valid_bounds h.1
  omega
theorem scale_eq {k : Nat} (hk : 18446744073709551616 < k) {n d : Int} (n0 : -9223372036854775808 ≤ n) (n1 : n < 9223372036854775808) (d1 : d < 9223372036854775808) : rational_scale.f k n d = some (scaleB n d) := by
  unfold rational_scale.f scaleB
  rw [valid_eq hk n0 n1 d1]
  simp only [Option.bind_some]
  by_cases v : validB n d = true
  · rw [if_pos v, v]
    by_cases c : n > 0
    · rw [if_pos c, decide_eq_true c]
      by_cases c2 : n ≤ 2147483648
      · rw [if_pos c2, decide_eq_true c2]; rfl
      · rw [if_neg c2, decide_eq_false c2]; rfl
    · rw [if_neg c, decide_eq_false c]; rfl
  · rw [if_neg v, Bool.eq_false_iff.mpr v]; rfl
/-- The position that n units at the scale an/ad have at the scale bn/bd. -/
def posS (n an ad bn bd : Int) : Int × Int :=
  if scaleB an ad = true ∧ scaleB bn bd = true then
    (if -9223372036854775808 ≤ (2 * n * (bn * ad) + bd * an) / (2 * (bd * an)) ∧ (2 * n * (bn * ad) + bd * an) / (2 * (bd * an)) ≤ 9223372036854775807 then ((2 * n * (bn * ad) + bd * an) / (2 * (bd * an)), 0) else (0, 2))
  else (0, 1)
theorem area62 {a b : Int} (a0 : 1 ≤ a) (a1 : a ≤ 2147483648) (b0 : 1 ≤ b) (b1 : b ≤ 2147483648) : 1 ≤ a * b ∧ a * b ≤ 4611686018427387904 := by
  have h1 : 1 * 1 ≤ a * b := Int.mul_le_mul a0 b0 (by omega) (by omega)
  have h2 : a * b ≤ 2147483648 * 2147483648 := Int.mul_le_mul a1 b1 (by omega) (by omega)
  omega
/-- The signed sum that Position divides. -/
theorem pos_floor {k : Nat} (hk : 1000 < k) {n N D : Int} (n0 : -9223372036854775808 ≤ n) (n1 : n < 9223372036854775808) (N0 : 1 ≤ N) (N1 : N ≤ 4611686018427387904) (D0 : 1 ≤ D) (D1 : D ≤ 4611686018427387904) :
    ∃ f, ((rational_times.f n (2 * N)).bind fun bt134 => ((rational_plus.f bt134.1 bt134.2.1 bt134.2.2 false 0 D).bind fun bt137 => rational_wide_floor.f k bt137.1 bt137.2.1 bt137.2.2 (2 * D))) = some f ∧
      (f.2.2 = true ↔ (-9223372036854775808 ≤ (2 * n * N + D) / (2 * D) ∧ (2 * n * N + D) / (2 * D) ≤ 9223372036854775807)) ∧ (f.2.2 = true → f.1 = (2 * n * N + D) / (2 * D)) := by
  have hn := mag_nonneg n; have hn1 := mag_lt n0 n1
  rw [times_eq n0 n1 (by omega) (by omega)]
  simp only [Option.bind_some]
  obtain ⟨w0, w1, w2, w3, w4, w5⟩ := words (a := mag n) (b := 2 * N) hn (by omega) (by omega) (by omega)
  have wb : mag n * (2 * N) ≤ 9223372036854775808 * 9223372036854775808 := Int.mul_le_mul (by omega) (by omega) (by omega) (by omega)
  unfold rational_plus.f
  rw [if_pos ⟨⟨w0, w1⟩, ⟨w2, w3⟩, ⟨by omega, by omega⟩, ⟨by omega, by omega⟩⟩]
  by_cases c : n < 0
  · rw [decide_eq_true c, if_neg (by decide)]
    have em : mag n = -n := by unfold mag; rw [if_pos c]
    have eT : 2 * n * N + D = D - mag n * (2 * N) := by
      rw [em, Int.neg_mul, Int.mul_left_comm, ← Int.mul_assoc]; omega
    have hl := lex (h1 := mag n * (2 * N) / 18446744073709551616) (l1 := mag n * (2 * N) % 18446744073709551616) (h2 := 0) (l2 := D) w2 w3 (by omega) (by omega)
    by_cases d : mag n * (2 * N) / 18446744073709551616 < 0 ∨ mag n * (2 * N) / 18446744073709551616 = 0 ∧ mag n * (2 * N) % 18446744073709551616 < D
    · rw [if_pos d]
      have d2 := hl.1 d
      rw [w4] at d2
      simp only [Option.bind_some]
      obtain ⟨s0, s1, s2, s3, s4⟩ := sub_words (h1 := 0) (l1 := D) (h2 := mag n * (2 * N) / 18446744073709551616) (l2 := mag n * (2 * N) % 18446744073709551616) (by omega) (by omega) (by omega) w0 w2 w3 (by omega)
      refine ⟨_, wfloor_eq hk false s0 s1 s2 (by omega) (by omega), ?_⟩
      rw [s4]
      refine floorS_spec (by omega) (by omega) ?_
      rw [if_neg (by decide), w4, eT]; omega
    · rw [if_neg d]
      have d2 := fun z => d (hl.2 z)
      rw [w4] at d2
      simp only [Option.bind_some]
      obtain ⟨s0, s1, s2, s3, s4⟩ := sub_words (h1 := mag n * (2 * N) / 18446744073709551616) (l1 := mag n * (2 * N) % 18446744073709551616) (h2 := 0) (l2 := D) w1 w2 w3 (by omega) (by omega) (by omega) (by omega)
      refine ⟨_, wfloor_eq hk true s0 s1 s2 (by omega) (by omega), ?_⟩
      rw [s4]
      refine floorS_spec (by omega) (by omega) ?_
      rw [if_pos rfl, w4, eT]; omega
  · rw [decide_eq_false c, if_pos rfl]
    simp only [Option.bind_some]
    have em : mag n = n := by unfold mag; rw [if_neg c]
    have eT : 2 * n * N + D = mag n * (2 * N) + D := by
      rw [em, Int.mul_left_comm, ← Int.mul_assoc]
    obtain ⟨s0, s1, s2, s3, s4⟩ := add_words (h1 := mag n * (2 * N) / 18446744073709551616) (l1 := mag n * (2 * N) % 18446744073709551616) (h2 := 0) (l2 := D) w0 w2 w3 (by omega) (by omega) (by omega) (by omega)
    refine ⟨_, wfloor_eq hk false s0 s1 s2 (by omega) (by omega), ?_⟩
    rw [s4]
    refine floorS_spec (by omega) (by omega) ?_
    rw [if_neg (by decide), w4, eT]; omega
theorem position_eq {k : Nat} (hk : 18446744073709551617 < k) {n an ad bn bd : Int} (n0 : -9223372036854775808 ≤ n) (n1 : n < 9223372036854775808) (an0 : -9223372036854775808 ≤ an) (an1 : an < 9223372036854775808) (ad1 : ad < 9223372036854775808)
    (bn0 : -9223372036854775808 ≤ bn) (bn1 : bn < 9223372036854775808) (bd1 : bd < 9223372036854775808) : rational_Position.f k n an ad bn bd = some (posS n an ad bn bd) := by
  unfold rational_Position.f posS
  rw [scale_eq (by omega) an0 an1 ad1, scale_eq (by omega) bn0 bn1 bd1]
  simp only [Option.bind_some]
  obtain ⟨k, rfl⟩ : ∃ m, k = m + 1 := ⟨k - 1, by omega⟩
  simp only [rational_Position.j0]
  by_cases c : scaleB an ad = true
  · by_cases d : scaleB bn bd = true
    · rw [if_pos c, if_pos (⟨c, d⟩ : scaleB an ad = true ∧ scaleB bn bd = true), d]
      obtain ⟨a1, a2, a3, a4⟩ := scaleB_bounds c
      obtain ⟨b1, b2, b3, b4⟩ := scaleB_bounds d
      obtain ⟨p1, p2⟩ := area62 b1 b2 a3 a4
      obtain ⟨q1, q2⟩ := area62 b3 b4 a1 a2
      rw [u64id (x := bn) (by omega) (by omega), u64id (x := ad) (by omega) (by omega), u64id (x := bd) (by omega) (by omega), u64id (x := an) (by omega) (by omega), u64id (x := bn * ad) (by omega) (by omega), u64id (x := bd * an) (by omega) (by omega),
        u64id (x := 2 * (bn * ad)) (by omega) (by omega), u64id (x := 2 * (bd * an)) (by omega) (by omega)]
      obtain ⟨f, h1, h2, h3⟩ := pos_floor (k := k) (by omega) (n := n) (N := bn * ad) (D := bd * an) n0 n1 p1 p2 q1 q2
      simp only [Bool.not_true, Bool.false_eq_true, if_false]
      have e : ((rational_times.f n (2 * (bn * ad))).bind fun bt134 => (rational_plus.f bt134.1 bt134.2.1 bt134.2.2 false 0 (bd * an)).bind fun bt137 => (rational_wide_floor.f k bt137.1 bt137.2.1 bt137.2.2 (2 * (bd * an))).bind fun bt140 => (if bt140.2.2 = true then (some (bt140.1, (0 : Int))) else (some (0, 2)))) =
          (((rational_times.f n (2 * (bn * ad))).bind fun bt134 => (rational_plus.f bt134.1 bt134.2.1 bt134.2.2 false 0 (bd * an)).bind fun bt137 => rational_wide_floor.f k bt137.1 bt137.2.1 bt137.2.2 (2 * (bd * an))).bind fun bt140 => (if bt140.2.2 = true then (some (bt140.1, (0 : Int))) else (some (0, 2)))) := by
        simp only [Option.bind_assoc]
      rw [e, h1]
      simp only [Option.bind_some]
      by_cases o : f.2.2 = true
      · rw [if_pos o, if_pos (h2.1 o), h3 o]
      · rw [if_neg o, if_neg (fun z => o (h2.2 z))]
    · rw [if_pos c, if_neg (fun z : scaleB an ad = true ∧ scaleB bn bd = true => d z.2), Bool.eq_false_iff.mpr d]; rfl
  · rw [if_neg c, if_neg (fun z : scaleB an ad = true ∧ scaleB bn bd = true => c z.1)]; rfl

theorem RationalLong : cutroomlaw01_RationalLong.Pure := by
  intro n hn
  obtain ⟨n0, n1⟩ := wf64 hn
  obtain ⟨k, hk⟩ : ∃ k : Nat, 18446744073709551620 < k := ⟨_, Nat.lt_succ_self _⟩
  refine ⟨k, ?_⟩
  have j : ∀ b : Bool, (b = false → 0 ≤ n ∧ n ≤ 1099511627776) → cutroomlaw01_RationalLong.j0 k n b = some true := by
    intro b hb
    obtain ⟨k, rfl⟩ : ∃ m, k = m + 1 := ⟨k - 1, by omega⟩
    simp only [cutroomlaw01_RationalLong.j0]
    rw [awake_eq (by omega)]
    cases b with
    | true => rfl
    | false =>
      obtain ⟨a0, a1⟩ := hb rfl
      simp only [Bool.false_eq_true, if_false]
      rw [position_eq (by omega) n0 n1 (by omega) (by omega) (by omega) (by omega) (by omega) (by omega)]
      have e : posS n 30000 1001 48000 1 = ((2 * n * (48000 * 1001) + 1 * 30000) / (2 * (1 * 30000)), 0) := by
        unfold posS
        rw [if_pos (by decide +kernel), if_pos (by omega)]
      rw [e]
      simp only [Option.bind_some, if_true]
      rw [w64id (x := 16016 * n) (by omega) (by omega), w64id (x := 10 * ((2 * n * (48000 * 1001) + 1 * 30000) / (2 * (1 * 30000)))) (by omega) (by omega),
        w64id (x := 10 * ((2 * n * (48000 * 1001) + 1 * 30000) / (2 * (1 * 30000))) - 16016 * n) (by omega) (by omega), if_pos (by omega), decide_eq_true (by omega)]
  unfold cutroomlaw01_RationalLong.f
  by_cases c : n < 0
  · rw [if_pos c]
    exact j true (fun z => by cases z)
  · rw [if_neg c]
    exact j _ (fun z => by have := of_decide_eq_false z; omega)


end Go.Proofs.Ytifemmalcncicaa.Pure
