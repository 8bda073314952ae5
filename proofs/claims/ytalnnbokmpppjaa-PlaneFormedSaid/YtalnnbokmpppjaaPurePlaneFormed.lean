/- plane.Formed and plane.Valid say the same as the reference, for every frame; no condition. -/
import Derived.Test.YtalnnbokmpppjaaPPlaneFormedx1
import Derived.Test.YtalnnbokmpppjaaPPlaneFormedx2
import Derived.Test.YtalnnbokmpppjaaPPlaneFormedx3
import Derived.Test.YtalnnbokmpppjaaPPlaneFormedx4
import Derived.Test.YtalnnbokmpppjaaPPlaneFormedx5
import Derived.Test.YtalnnbokmpppjaaPlaneNum
namespace Go.Proofs.Ytalnnbokmpppjaa.Pure
open Go.RowKit Go.Proofs.Ytalnnbokmpppjaa.PPlaneFormed Go.Proofs.YtalnnbokmpppjaaW.PrintWords Go.Proofs.YtalnnbokmpppjaaW.PrintLast Go.Proofs.Ytalnnbokmpppjaa.PlaneNum

theorem formed_eq (w h : Int) (y u v : List Int) : plane_Formed.f w h y u v = some (decide (formed w h y u v)) := by
  unfold plane_Formed.f
  have ht : ∀ x : Int, 2 ≤ x → Int.tmod x 2 = x % 2 := fun x hx => Int.tmod_eq_emod_of_nonneg (by omega)
  by_cases c : 2 ≤ w ∧ w ≤ 64 ∧ w % 2 = 0 ∧ 2 ≤ h ∧ h ≤ 64 ∧ h % 2 = 0
  · obtain ⟨h1, h2, h3, h4, h5, h6⟩ := c
    obtain ⟨a1, a2, a3, a4, a5, a6⟩ := area h1 h2 h3 h4 h5 h6
    rw [if_neg (by omega), if_neg (by omega), ht w h1, if_pos h3, if_neg (by omega), if_neg (by omega), ht h h4, if_pos h6, w64id (by omega) (by omega), Int.tdiv_eq_ediv_of_nonneg a1, w64id (by omega) (by omega), a6]
    by_cases c1 : (y.length : Int) = w * h
    · rw [if_pos c1]
      by_cases c2 : (u.length : Int) = w / 2 * (h / 2)
      · rw [if_pos c2]
        congr 1
        rw [Bool.eq_iff_iff, beq_iff_eq, decide_eq_true_iff]
        unfold formed
        exact ⟨fun z => ⟨⟨h1, h2, h3, h4, h5, h6⟩, c1, c2, z⟩, fun z => z.2.2.2⟩
      · rw [if_neg c2, decide_eq_false (fun z => c2 z.2.2.1)]
    · rw [if_neg c1, decide_eq_false (fun z => c1 z.2.1)]
  · rw [decide_eq_false (fun z => c z.1)]
    by_cases h1 : w < 2
    · rw [if_pos h1]
    rw [if_neg h1]
    by_cases h2 : w > 64
    · rw [if_pos h2]
    rw [if_neg h2, ht w (by omega)]
    by_cases h3 : w % 2 = 0
    · rw [if_pos h3]
      by_cases h4 : h < 2
      · rw [if_pos h4]
      rw [if_neg h4]
      by_cases h5 : h > 64
      · rw [if_pos h5]
      rw [if_neg h5, ht h (by omega)]
      by_cases h6 : h % 2 = 0
      · exact absurd ⟨by omega, by omega, h3, by omega, by omega, h6⟩ c
      · rw [if_neg h6]
    · rw [if_neg h3]

theorem rformed_eq (w h : Int) (y u v : List Int) : cutroomref07_Formed.f w h y u v = some (decide (formed w h y u v)) := by
  unfold cutroomref07_Formed.f
  have ht : ∀ x : Int, 2 ≤ x → Int.tmod x 2 = x % 2 := fun x hx => Int.tmod_eq_emod_of_nonneg (by omega)
  by_cases c : 2 ≤ w ∧ w ≤ 64 ∧ w % 2 = 0 ∧ 2 ≤ h ∧ h ≤ 64 ∧ h % 2 = 0
  · obtain ⟨h1, h2, h3, h4, h5, h6⟩ := c
    obtain ⟨a1, a2, a3, a4, a5, a6⟩ := area h1 h2 h3 h4 h5 h6
    rw [if_neg (by omega), if_neg (by omega), ht w h1, if_pos h3, if_neg (by omega), if_neg (by omega), ht h h4, if_pos h6, w64id (x := w * h) (by omega) (by omega), Int.tdiv_eq_ediv_of_nonneg (show 0 ≤ w by omega), Int.tdiv_eq_ediv_of_nonneg (show 0 ≤ h by omega), w64id (x := w / 2) (by omega) (by omega), w64id (x := h / 2) (by omega) (by omega), w64id (x := w / 2 * (h / 2)) (by omega) (by omega)]
    by_cases c1 : (y.length : Int) = w * h
    · rw [if_pos c1]
      by_cases c2 : (u.length : Int) = w / 2 * (h / 2)
      · rw [if_pos c2]
        congr 1
        rw [Bool.eq_iff_iff, beq_iff_eq, decide_eq_true_iff]
        unfold formed
        exact ⟨fun z => ⟨⟨h1, h2, h3, h4, h5, h6⟩, c1, c2, z⟩, fun z => z.2.2.2⟩
      · rw [if_neg c2, decide_eq_false (fun z => c2 z.2.2.1)]
    · rw [if_neg c1, decide_eq_false (fun z => c1 z.2.1)]
  · rw [decide_eq_false (fun z => c z.1)]
    by_cases h1 : w < 2
    · rw [if_pos h1]
    rw [if_neg h1]
    by_cases h2 : w > 64
    · rw [if_pos h2]
    rw [if_neg h2, ht w (by omega)]
    by_cases h3 : w % 2 = 0
    · rw [if_pos h3]
      by_cases h4 : h < 2
      · rw [if_pos h4]
      rw [if_neg h4]
      by_cases h5 : h > 64
      · rw [if_pos h5]
      rw [if_neg h5, ht h (by omega)]
      by_cases h6 : h % 2 = 0
      · exact absurd ⟨by omega, by omega, h3, by omega, by omega, h6⟩ c
      · rw [if_neg h6]
    · rw [if_neg h3]

theorem light_some (w h : Int) (y u v : List Int) : cutroomlaw07_light.f w h y u v = some (decide ((y.length : Int) ≤ 5000 ∧ (u.length : Int) ≤ 2000 ∧ (v.length : Int) ≤ 2000)) := by
  unfold cutroomlaw07_light.f
  by_cases c1 : (y.length : Int) ≤ 5000
  · rw [if_pos c1]
    by_cases c2 : (u.length : Int) ≤ 2000
    · rw [if_pos c2]; congr 1; rw [Bool.eq_iff_iff, decide_eq_true_iff, decide_eq_true_iff]; exact ⟨fun z => ⟨c1, c2, z⟩, fun z => z.2.2⟩
    · rw [if_neg c2, decide_eq_false (fun z => c2 z.2.1)]
  · rw [if_neg c1, decide_eq_false (fun z => c1 z.1)]

set_option maxRecDepth 100000 in
theorem awake_300 : cutroomlaw07_awake.f 300 = some true := by decide +kernel
theorem awake_eq {k : Nat} (hk : 300 ≤ k) : cutroomlaw07_awake.f k = some true := at_rounds (fun k => cutroomlaw07_awake.mono k) hk awake_300

theorem valid_eq (w h : Int) (y u v : List Int) : plane_Valid.f w h y u v = some (decide (formed w h y u v) && (decide (w % 16 = 0) && decide (h % 16 = 0))) := by
  unfold plane_Valid.f
  rw [formed_eq]
  simp only [Option.bind_some]
  by_cases c : formed w h y u v
  · have c0 := c.1
    rw [decide_eq_true c, if_pos rfl, Int.tmod_eq_emod_of_nonneg (by omega), Int.tmod_eq_emod_of_nonneg (by omega)]
    by_cases c2 : w % 16 = 0
    · rw [if_pos c2, decide_eq_true c2]; simp only [Bool.true_and]; congr 1
    · rw [if_neg c2, decide_eq_false c2]; simp
  · rw [decide_eq_false c]; simp

theorem rvalid_eq (w h : Int) (y u v : List Int) : cutroomref07_Valid.f w h y u v = some (decide (formed w h y u v) && (decide (w % 16 = 0) && decide (h % 16 = 0))) := by
  unfold cutroomref07_Valid.f
  rw [rformed_eq]
  simp only [Option.bind_some]
  by_cases c : formed w h y u v
  · have c0 := c.1
    rw [decide_eq_true c, if_pos rfl, Int.tmod_eq_emod_of_nonneg (by omega), Int.tmod_eq_emod_of_nonneg (by omega)]
    by_cases c2 : w % 16 = 0
    · rw [if_pos c2, decide_eq_true c2]; simp only [Bool.true_and]; congr 1
    · rw [if_neg c2, decide_eq_false c2]; simp
  · rw [decide_eq_false c]; simp

theorem PlaneFormed (w h : Int) (y u v : List Int) (_ : (Lit.int .i64 w).wf = true) (_ : (Lit.int .i64 h).wf = true) (_ : (∀ x ∈ y, (Lit.int .u8 x).wf = true) ∧ y.length * 1 ≤ reachBytes)
    (_ : (∀ x ∈ u, (Lit.int .u8 x).wf = true) ∧ u.length * 1 ≤ reachBytes) (_ : (∀ x ∈ v, (Lit.int .u8 x).wf = true) ∧ v.length * 1 ≤ reachBytes) : ∃ k, cutroomlaw07_PlaneFormed.f k w h y u v = some true := by
  refine ⟨300, ?_⟩
  unfold cutroomlaw07_PlaneFormed.f
  rw [light_some, awake_eq (Nat.le_refl _), formed_eq, rformed_eq, valid_eq, rvalid_eq]
  simp only [Option.bind_some, if_true, beq_self_eq_true]
  split <;> rfl


end Go.Proofs.Ytalnnbokmpppjaa.Pure
