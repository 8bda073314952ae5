/- Rows taken out of a list, and woven into one: plain lists. -/
import Derived.Test.YtalnnbokmpppjaaPfB
namespace Go.Proofs.YtalnnbokmpppjaaAb
open Go Go.RowKit
set_option linter.unusedVariables false
set_option linter.unusedSimpArgs false
theorem rowsL_miss {a b : Nat → Nat} {w : Nat} {S D : List Int} {i : Nat} : ∀ {n : Nat}, (∀ j, j < n → a j + w ≤ D.length ∧ b j + w ≤ S.length) → (∀ j, j < n → i < a j ∨ a j + w ≤ i) → (rowsL a b w S n D)[i]? = D[i]?
  | 0, _, _ => rfl
  | n + 1, h, hi => by
    have hl := rowsL_length (a := a) (b := b) (w := w) (S := S) (D := D) (n := n) (fun j hj => (h j (by omega)).1)
    have := h n (by omega)
    have h2 := hi n (by omega)
    rw [rowsL, fover_get (by simp; omega), if_neg (by simp; omega)]
    exact rowsL_miss (fun j hj => h j (by omega)) (fun j hj => hi j (by omega))
theorem rowsL_hit {a b : Nat → Nat} {w : Nat} {S D : List Int} {i j : Nat} : ∀ {n : Nat}, (∀ j, j < n → a j + w ≤ D.length ∧ b j + w ≤ S.length) → j < n → (a j ≤ i ∧ i < a j + w) → (∀ k, j < k → k < n → i < a k ∨ a k + w ≤ i) → (rowsL a b w S n D)[i]? = S[b j + (i - a j)]?
  | 0, _, h, _, _ => by omega
  | n + 1, h, hj, hi, ho => by
    have hl := rowsL_length (a := a) (b := b) (w := w) (S := S) (D := D) (n := n) (fun j hj => (h j (by omega)).1)
    have := h n (by omega)
    by_cases hn : j = n
    · subst hn
      rw [rowsL, fover_get (by simp; omega), if_pos (by simp; omega), List.getElem?_take, if_pos (by omega), List.getElem?_drop]
    · have h2 := ho n (by omega) (by omega)
      rw [rowsL, fover_get (by simp; omega), if_neg (by simp; omega)]
      exact rowsL_hit (fun j hj => h j (by omega)) (by omega) hi (fun k hk hk2 => ho k hk (by omega))
theorem catL_get {b : Nat → Nat} {w : Nat} {S : List Int} {j c : Nat} (hc : c < w) : ∀ {n : Nat}, (∀ j, j < n → b j + w ≤ S.length) → j < n → (catL b w S n)[j * w + c]? = S[b j + c]?
  | 0, _, h => by omega
  | n + 1, h, hj => by
    have hl := catL_length (b := b) (w := w) (S := S) (n := n) (fun j hj => h j (by omega))
    have := h n (by omega)
    by_cases hn : j = n
    · subst hn
      rw [catL, List.getElem?_append_right (by omega), hl, List.getElem?_take, if_pos (by omega), List.getElem?_drop]
      congr 1; (try dsimp only); omega
    · have h2 : (j + 1) * w ≤ n * w := Nat.mul_le_mul_right w (by omega)
      rw [Nat.add_mul] at h2
      rw [catL, List.getElem?_append_left (by omega)]
      exact catL_get hc (fun j hj => h j (by omega)) (by omega)
/-- two lists of n rows are one, if their rows are -/
theorem rows_ext {A B : List Int} {n w : Nat} (hA : A.length = n * w) (hB : B.length = n * w) (h : ∀ j c, j < n → c < w → A[j * w + c]? = B[j * w + c]?) : A = B := by
  apply List.ext_getElem?
  intro i
  by_cases hi : i < n * w
  · have hw : 0 < w := by
      rcases Nat.eq_zero_or_pos w with h0 | h0
      · subst h0; omega
      · exact h0
    have e : i = i / w * w + i % w := by rw [Nat.mul_comm]; exact (Nat.div_add_mod i w).symm
    rw [e]
    exact h _ _ ((Nat.div_lt_iff_lt_mul hw).2 hi) (Nat.mod_lt _ hw)
  · rw [List.getElem?_eq_none (by omega), List.getElem?_eq_none (by omega)]
theorem rows_cat {w n : Nat} {S D : List Int} {b : Nat → Nat} (hb : ∀ j, j < n → b j + w ≤ S.length) (hD : D.length = n * w) : rowsL (fun j => j * w) b w S n D = catL b w S n := by
  have hr : ∀ j, j < n → j * w + w ≤ n * w := fun j hj => by have := Nat.mul_le_mul_right w (show j + 1 ≤ n by omega); rw [Nat.add_mul] at this; omega
  have hh : ∀ j, j < n → j * w + w ≤ D.length ∧ b j + w ≤ S.length := fun j hj => by have := hr j hj; have := hb j hj; omega
  refine rows_ext (by rw [rowsL_length (fun j hj => (hh j hj).1), hD]) (catL_length hb) ?_
  intro j c hj hc
  rw [catL_get hc hb hj, rowsL_hit hh hj ⟨by omega, by omega⟩ (fun k hk hkn => .inl (by have := Nat.mul_le_mul_right w (show j + 1 ≤ k by omega); rw [Nat.add_mul] at this; omega))]
  congr 1; (try dsimp only); omega
/-- the rows of A at the even places, those of B at the odd ones -/
def weaveL (A B : List Int) (w n : Nat) (D : List Int) : List Int := rowsL (fun j => (j * 2 + 1) * w) (fun j => j * w) w B n (rowsL (fun j => (j * 2 + 0) * w) (fun j => j * w) w A n D)
theorem weaveL_length {A B D : List Int} {w n : Nat} (hD : D.length = n * 2 * w) : (weaveL A B w n D).length = n * 2 * w := by
  have hr : ∀ j, j < n → (j * 2 + 1) * w + w ≤ n * 2 * w := fun j hj => by have := Nat.mul_le_mul_right w (show j * 2 + 1 + 1 ≤ n * 2 by omega); rw [Nat.add_mul] at this; omega
  have e : (rowsL (fun j => (j * 2 + 0) * w) (fun j => j * w) w A n D).length = D.length := rowsL_length fun j hj => by have := hr j hj; rw [Nat.add_mul] at this; rw [Nat.add_zero]; omega
  rw [weaveL, rowsL_length, e, hD]
  intro j hj
  have := hr j hj
  rw [e]; omega
theorem weaveL_get {A B D : List Int} {w n : Nat} (hA : A.length = n * w) (hB : B.length = n * w) (hD : D.length = n * 2 * w) {j c : Nat} (hj : j < n) (hc : c < w) :
    (weaveL A B w n D)[(j * 2 + 0) * w + c]? = A[j * w + c]? ∧ (weaveL A B w n D)[(j * 2 + 1) * w + c]? = B[j * w + c]? := by
  have hr : ∀ j, j < n → (j * 2 + 1) * w + w ≤ n * 2 * w := fun j hj => by have := Nat.mul_le_mul_right w (show j * 2 + 1 + 1 ≤ n * 2 by omega); rw [Nat.add_mul] at this; omega
  have hr0 : ∀ j, j < n → (j * 2 + 0) * w + w ≤ n * 2 * w := fun j hj => by have := hr j hj; rw [Nat.add_mul] at this; rw [Nat.add_zero]; omega
  have hs : ∀ j, j < n → j * w + w ≤ n * w := fun j hj => by have := Nat.mul_le_mul_right w (show j + 1 ≤ n by omega); rw [Nat.add_mul] at this; omega
  have ord : ∀ x y, x < y → x * w + w ≤ y * w := fun x y h => by have := Nat.mul_le_mul_right w (show x + 1 ≤ y by omega); rw [Nat.add_mul] at this; omega
  have e : (rowsL (fun j => (j * 2 + 0) * w) (fun j => j * w) w A n D).length = D.length := rowsL_length fun j hj => by have := hr0 j hj; omega
  have hb1 : ∀ j, j < n → (fun j => (j * 2 + 1) * w) j + w ≤ (rowsL (fun j => (j * 2 + 0) * w) (fun j => j * w) w A n D).length ∧ (fun j => j * w) j + w ≤ B.length := fun j hj => by have := hr j hj; have := hs j hj; rw [e]; (try dsimp only); omega
  have hb0 : ∀ j, j < n → (fun j => (j * 2 + 0) * w) j + w ≤ D.length ∧ (fun j => j * w) j + w ≤ A.length := fun j hj => by have := hr0 j hj; have := hs j hj; (try dsimp only); omega
  constructor
  · rw [weaveL, rowsL_miss hb1, rowsL_hit hb0 hj (by (try dsimp only); omega)]
    · congr 1; (try dsimp only); omega
    · intro k hk hkn
      have := ord (j * 2 + 0) (k * 2 + 0) (by omega)
      left; (try dsimp only); omega
    · intro k hk
      try dsimp only
      by_cases hkj : k < j
      · have := ord (k * 2 + 1) (j * 2 + 0) (by omega); right; omega
      · have := ord (j * 2 + 0) (k * 2 + 1) (by omega); left; (try dsimp only); omega
  · rw [weaveL, rowsL_hit hb1 hj (by (try dsimp only); omega)]
    · congr 1; (try dsimp only); omega
    · intro k hk hkn
      have := ord (j * 2 + 1) (k * 2 + 1) (by omega)
      left; (try dsimp only); omega
/-- a list of 2n rows of w that has A's rows at the even places and B's at the odd ones is their weave -/
theorem weaveL_ext {A B D X : List Int} {w n : Nat} (hA : A.length = n * w) (hB : B.length = n * w) (hD : D.length = n * 2 * w) (hX : X.length = n * 2 * w)
    (h : ∀ j c, j < n → c < w → X[(j * 2 + 0) * w + c]? = A[j * w + c]? ∧ X[(j * 2 + 1) * w + c]? = B[j * w + c]?) : weaveL A B w n D = X := by
  refine rows_ext (weaveL_length hD) hX ?_
  intro r c hr hc
  have h1 := weaveL_get hA hB hD (j := r / 2) (c := c) (by omega) hc
  have h2 := h (r / 2) c (by omega) hc
  rcases Nat.mod_two_eq_zero_or_one r with h0 | h0
  · rw [show r = r / 2 * 2 + 0 by omega, h1.1, h2.1]
  · rw [show r = r / 2 * 2 + 1 by omega, h1.2, h2.2]
/-- the fields of a component -/
abbrev oddL (S : List Int) (p w n : Nat) : List Int := catL (fun j => (j * 2 + p) * w) w S n
theorem oddL_in {S : List Int} {p w n : Nat} (hp : p < 2) (hS : S.length = n * 2 * w) : ∀ j, j < n → (fun j => (j * 2 + p) * w) j + w ≤ S.length := fun j hj => by
  have := Nat.mul_le_mul_right w (show j * 2 + p + 1 ≤ n * 2 by omega)
  rw [Nat.add_mul _ 1] at this
  simp only; omega
theorem weave_fields {S D : List Int} {w n : Nat} (hS : S.length = n * 2 * w) (hD : D.length = n * 2 * w) : weaveL (oddL S 0 w n) (oddL S 1 w n) w n D = S :=
  weaveL_ext (catL_length (oddL_in (by omega) hS)) (catL_length (oddL_in (by omega) hS)) hD hS fun j c hj hc => ⟨(catL_get hc (oddL_in (by omega) hS) hj).symm, (catL_get hc (oddL_in (by omega) hS) hj).symm⟩
theorem fields_weave {A B D : List Int} {w n : Nat} (hA : A.length = n * w) (hB : B.length = n * w) (hD : D.length = n * 2 * w) : oddL (weaveL A B w n D) 0 w n = A ∧ oddL (weaveL A B w n D) 1 w n = B := by
  have hW := weaveL_length (A := A) (B := B) hD
  constructor
  · refine rows_ext (catL_length (oddL_in (by omega) hW)) hA fun j c hj hc => ?_
    rw [catL_get hc (oddL_in (by omega) hW) hj]
    exact (weaveL_get hA hB hD hj hc).1
  · refine rows_ext (catL_length (oddL_in (by omega) hW)) hB fun j c hj hc => ?_
    rw [catL_get hc (oddL_in (by omega) hW) hj]
    exact (weaveL_get hA hB hD hj hc).2
/-- the rows of A and of B by turns -/
def wovL (A B : List Int) (w : Nat) : Nat → List Int
  | 0 => []
  | j + 1 => wovL A B w j ++ (A.drop (j * w)).take w ++ (B.drop (j * w)).take w
theorem wovL_length {A B : List Int} {w m : Nat} (hA : A.length = m * w) (hB : B.length = m * w) : ∀ {n : Nat}, n ≤ m → (wovL A B w n).length = n * 2 * w
  | 0, _ => by simp [wovL]
  | n + 1, h => by
    have := Nat.mul_le_mul_right w h
    rw [Nat.add_mul] at this
    rw [wovL, List.length_append, List.length_append, wovL_length hA hB (n := n) (by omega), Nat.add_mul, Nat.add_mul]
    simp; omega
theorem wovL_get {A B : List Int} {w m : Nat} (hA : A.length = m * w) (hB : B.length = m * w) {j c : Nat} (hc : c < w) : ∀ {n : Nat}, n ≤ m → j < n → (wovL A B w n)[(j * 2 + 0) * w + c]? = A[j * w + c]? ∧ (wovL A B w n)[(j * 2 + 1) * w + c]? = B[j * w + c]?
  | 0, _, h => by omega
  | n + 1, hm, hj => by
    have hl := wovL_length hA hB (show n ≤ m by omega)
    have h1 := Nat.mul_le_mul_right w hm
    rw [Nat.add_mul] at h1
    have e1 : (n * 2 + 1) * w = n * 2 * w + w := by rw [Nat.add_mul]; omega
    by_cases hn : j = n
    · subst hn
      rw [wovL]
      constructor
      · rw [List.getElem?_append_left (by simp; omega), List.getElem?_append_right (by simp; omega), List.getElem?_take, if_pos (by rw [Nat.add_zero]; omega), List.getElem?_drop]
        congr 1; rw [Nat.add_zero]; omega
      · rw [List.getElem?_append_right (by simp; omega), List.getElem?_take, if_pos (by simp; omega), List.getElem?_drop]
        congr 1; simp; omega
    · have h2 : (j * 2 + 1 + 1) * w ≤ n * 2 * w := Nat.mul_le_mul_right w (by omega)
      have e2 : (j * 2 + 1) * w = (j * 2) * w + w := by rw [Nat.add_mul]; omega
      rw [Nat.add_mul _ 1] at h2
      rw [wovL, List.append_assoc, List.getElem?_append_left (by rw [Nat.add_zero]; omega), List.getElem?_append_left (by omega)]
      exact wovL_get hA hB hc (by omega) (by omega)
theorem weave_wov {A B D : List Int} {w n : Nat} (hA : A.length = n * w) (hB : B.length = n * w) (hD : D.length = n * 2 * w) : weaveL A B w n D = wovL A B w n :=
  weaveL_ext hA hB hD (wovL_length hA hB (Nat.le_refl _)) fun j c hj hc => wovL_get hA hB hc (Nat.le_refl _) hj
end Go.Proofs.YtalnnbokmpppjaaAb
