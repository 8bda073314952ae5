/- plane.Flat gives what the reference gives, for all sizes and values; no condition. -/
import Derived.Test.YtalnnbokmpppjaaPPlaneFlatx1
import Derived.Test.YtalnnbokmpppjaaPPlaneFlatx2
import Derived.Test.YtalnnbokmpppjaaPPlaneFlatx3
import Derived.Test.YtalnnbokmpppjaaPPlaneFlatx4
import Derived.Test.YtalnnbokmpppjaaPPlaneFlatx5
import Derived.Test.YtalnnbokmpppjaaPPlaneFlatx6
import Derived.Test.YtalnnbokmpppjaaPPlaneFlatx7
import Derived.Test.YtalnnbokmpppjaaPlaneNum
namespace Go.Proofs.Ytalnnbokmpppjaa.Pure
open Go.RowKit Go.Proofs.Ytalnnbokmpppjaa.PPlaneFlat Go.Proofs.YtalnnbokmpppjaaW.PrintWords Go.Proofs.YtalnnbokmpppjaaW.PrintLast Go.Proofs.Ytalnnbokmpppjaa.PlaneNum

theorem set_fill (l : List Int) (v : Int) (i : Nat) (h : i < l.length) : (List.replicate i v ++ l.drop i).set i v = List.replicate (i + 1) v ++ l.drop (i + 1) := by
  rw [List.set_append_right _ _ (by simp), List.length_replicate, Nat.sub_self, List.drop_eq_getElem_cons h, List.set_cons_zero, List.replicate_succ', List.append_assoc]
  rfl
theorem fill_len (l : List Int) (v : Int) (i : Nat) (h : i ≤ l.length) : (List.replicate i v ++ l.drop i).length = l.length := by
  simp; omega
theorem fill_all (l : List Int) (v : Int) : List.replicate l.length v ++ l.drop l.length = List.replicate l.length v := by simp
/-- A size that a frame may have. -/
def sized (w h : Int) : Prop := 2 ≤ w ∧ w ≤ 64 ∧ w % 2 = 0 ∧ 2 ≤ h ∧ h ≤ 64 ∧ h % 2 = 0
instance (w h : Int) : Decidable (sized w h) := by unfold sized; infer_instance
theorem rep_formed {w h y u v : Int} (s : sized w h) : formed w h (List.replicate (w * h).toNat y) (List.replicate (w / 2 * (h / 2)).toNat u) (List.replicate (w / 2 * (h / 2)).toNat v) := by
  obtain ⟨a1, a2, a3, a4, a5, a6⟩ := area s.1 s.2.1 s.2.2.1 s.2.2.2.1 s.2.2.2.2.1 s.2.2.2.2.2
  refine ⟨s, ?_, ?_, ?_⟩ <;> (rw [List.length_replicate]; omega)
theorem rep_bytes {n : Nat} {v : Int} (h0 : 0 ≤ v) (h1 : v < 256) : Bytes (List.replicate n v) := fun x hx => by rw [List.eq_of_mem_replicate hx]; exact ⟨h0, h1⟩

theorem pfill_l0 (l : List Int) (v : Int) (hn : l.length < 5001) (d : Nat) : ∀ (k i : Nat), l.length - i = d → i ≤ l.length → d < k →
    plane_fill_byte_byte.l0 k (List.replicate i v ++ l.drop i) v (l.length : Int) (i : Int) = some (List.replicate l.length v) := by
  induction d with
  | zero =>
    intro k i hd hi hk
    obtain ⟨k, rfl⟩ : ∃ m, k = m + 1 := ⟨k - 1, by omega⟩
    obtain rfl : i = l.length := by omega
    simp only [plane_fill_byte_byte.l0]
    rw [if_neg (by omega), fill_all]
  | succ d ih =>
    intro k i hd hi hk
    obtain ⟨k, rfl⟩ : ∃ m, k = m + 1 := ⟨k - 1, by omega⟩
    simp only [plane_fill_byte_byte.l0]
    rw [fill_len l v i hi, if_pos (by omega), if_pos (by omega), if_pos (by omega), Int.toNat_natCast, set_fill l v i (by omega), w64id (x := (i : Int) + 1) (by omega) (by omega)]
    have e := ih k (i + 1) (by omega) (by omega) (by omega)
    rw [show ((i + 1 : Nat) : Int) = (i : Int) + 1 from by omega] at e
    exact e
theorem pfill_eq {k : Nat} (hk : 5001 < k) (l : List Int) (v : Int) (hn : l.length < 5001) : plane_fill_byte_byte.f k l v = some (List.replicate l.length v) := by
  unfold plane_fill_byte_byte.f
  exact pfill_l0 l v hn l.length k 0 (by omega) (by omega) (by omega)
theorem empty_eq {w h : Int} (s : sized w h) : plane_empty.f w h = some (w, h, List.replicate (w * h).toNat 0, List.replicate (w / 2 * (h / 2)).toNat 0, List.replicate (w / 2 * (h / 2)).toNat 0) := by
  obtain ⟨a1, a2, a3, a4, a5, a6⟩ := area s.1 s.2.1 s.2.2.1 s.2.2.2.1 s.2.2.2.2.1 s.2.2.2.2.2
  unfold plane_empty.f
  rw [w64id (x := w * h) (by omega) (by omega), Int.tdiv_eq_ediv_of_nonneg a1, w64id (x := w * h / 4) (by omega) (by omega), a6, if_pos (by omega), if_pos (by omega), if_pos (by omega), if_pos (by omega)]
theorem flat_j0 {k : Nat} (hk : 5002 < k) (w h y u v : Int) (b : Bool) (hb : b = false → sized w h) :
    plane_Flat.j0 k w h y u v b = some (if b = true then (0, 0, [], [], [], 1) else (w, h, List.replicate (w * h).toNat y, List.replicate (w / 2 * (h / 2)).toNat u, List.replicate (w / 2 * (h / 2)).toNat v, 0)) := by
  obtain ⟨k, rfl⟩ : ∃ m, k = m + 1 := ⟨k - 1, by omega⟩
  simp only [plane_Flat.j0]
  cases b with
  | true => rfl
  | false =>
    have s := hb rfl
    obtain ⟨a1, a2, a3, a4, a5, a6⟩ := area s.1 s.2.1 s.2.2.1 s.2.2.2.1 s.2.2.2.2.1 s.2.2.2.2.2
    simp only [Bool.false_eq_true, if_false]
    rw [empty_eq s]
    simp only [Option.bind_some]
    rw [pfill_eq (by omega) _ _ (by rw [List.length_replicate]; omega), pfill_eq (by omega) _ _ (by rw [List.length_replicate]; omega), pfill_eq (by omega) _ _ (by rw [List.length_replicate]; omega)]
    simp only [Option.bind_some, List.length_replicate]
theorem flat_eq {k : Nat} (hk : 5002 < k) (w h y u v : Int) :
    plane_Flat.f k w h y u v = some (if sized w h then (w, h, List.replicate (w * h).toNat y, List.replicate (w / 2 * (h / 2)).toNat u, List.replicate (w / 2 * (h / 2)).toNat v, 0) else (0, 0, [], [], [], 1)) := by
  have ht : ∀ x : Int, 2 ≤ x → Int.tmod x 2 = x % 2 := fun x hx => Int.tmod_eq_emod_of_nonneg (by omega)
  unfold plane_Flat.f
  have bad : ¬ sized w h → plane_Flat.j0 k w h y u v true = some (if sized w h then (w, h, List.replicate (w * h).toNat y, List.replicate (w / 2 * (h / 2)).toNat u, List.replicate (w / 2 * (h / 2)).toNat v, 0) else (0, 0, [], [], [], 1)) := by
    intro n
    rw [flat_j0 hk _ _ _ _ _ true (fun z => by cases z), if_pos rfl, if_neg n]
  by_cases h1 : w < 2
  · rw [if_pos h1]; exact bad (fun z => by have := z.1; omega)
  rw [if_neg h1]
  by_cases h2 : w > 64
  · rw [if_pos h2]; exact bad (fun z => by have := z.2.1; omega)
  rw [if_neg h2, ht w (by omega)]
  by_cases h3 : w % 2 = 0
  · rw [if_pos h3]
    by_cases h4 : h < 2
    · rw [if_pos h4]; exact bad (fun z => by have := z.2.2.2.1; omega)
    rw [if_neg h4]
    by_cases h5 : h > 64
    · rw [if_pos h5]; exact bad (fun z => by have := z.2.2.2.2.1; omega)
    rw [if_neg h5, ht h (by omega)]
    by_cases h6 : h % 2 = 0
    · have s : sized w h := ⟨by omega, by omega, h3, by omega, by omega, h6⟩
      rw [flat_j0 hk _ _ _ _ _ _ (fun _ => s), if_pos s, if_neg (by simp [h6])]
    · have e : (h % 2 != 0) = true := by simpa using h6
      rw [e]
      exact bad (fun z => h6 z.2.2.2.2.2)
  · rw [if_neg h3]; exact bad (fun z => h3 z.2.2.1)

theorem blank_eq {w h : Int} (s : sized w h) : cutroomref07_Blank.f w h = some (w, h, List.replicate (w * h).toNat 0, List.replicate (w / 2 * (h / 2)).toNat 0, List.replicate (w / 2 * (h / 2)).toNat 0) := by
  obtain ⟨a1, a2, a3, a4, a5, a6⟩ := area s.1 s.2.1 s.2.2.1 s.2.2.2.1 s.2.2.2.2.1 s.2.2.2.2.2
  obtain ⟨s1, s2, s3, s4, s5, s6⟩ := s
  unfold cutroomref07_Blank.f
  rw [w64id (x := w * h) (by omega) (by omega), Int.tdiv_eq_ediv_of_nonneg (show 0 ≤ w by omega), Int.tdiv_eq_ediv_of_nonneg (show 0 ≤ h by omega), w64id (x := w / 2) (by omega) (by omega), w64id (x := h / 2) (by omega) (by omega), w64id (x := w / 2 * (h / 2)) (by omega) (by omega),
    if_pos (by omega), if_pos (by omega), if_pos (by omega), if_pos (by omega)]
theorem rflat_l1 (u v : List Int) (hl : u.length = v.length) (a b : Int) (hn : u.length < 5001) (w h : Int) (y : List Int) (d : Nat) : ∀ (k i : Nat), u.length - i = d → i ≤ u.length → d < k →
    cutroomref07_Flat.l1 k a b (i : Int) w h y (List.replicate i a ++ u.drop i) (List.replicate i b ++ v.drop i) = some (w, h, y, List.replicate u.length a, List.replicate u.length b) := by
  induction d with
  | zero =>
    intro k i hd hi hk
    obtain ⟨k, rfl⟩ : ∃ m, k = m + 1 := ⟨k - 1, by omega⟩
    obtain rfl : i = u.length := by omega
    simp only [cutroomref07_Flat.l1]
    rw [fill_len u a _ hi, if_neg (by omega), fill_all, hl, fill_all]
  | succ d ih =>
    intro k i hd hi hk
    obtain ⟨k, rfl⟩ : ∃ m, k = m + 1 := ⟨k - 1, by omega⟩
    simp only [cutroomref07_Flat.l1]
    rw [fill_len u a i hi, fill_len v b i (by omega), if_pos (by omega), if_pos (by omega), if_pos (by omega), Int.toNat_natCast, set_fill u a i (by omega), set_fill v b i (by omega), w64id (x := (i : Int) + 1) (by omega) (by omega)]
    have e := ih k (i + 1) (by omega) (by omega) (by omega)
    rw [show ((i + 1 : Nat) : Int) = (i : Int) + 1 from by omega] at e
    exact e
theorem rflat_l0 (y : List Int) (c : Int) (hn : y.length < 5001) (w h a b : Int) (u v : List Int) (hl : u.length = v.length) (hu : u.length < 5001) (d : Nat) : ∀ (k i : Nat), y.length - i = d → i ≤ y.length → d + 5002 < k →
    cutroomref07_Flat.l0 k c a b (i : Int) w h (List.replicate i c ++ y.drop i) u v = some (w, h, List.replicate y.length c, List.replicate u.length a, List.replicate u.length b) := by
  induction d with
  | zero =>
    intro k i hd hi hk
    obtain ⟨k, rfl⟩ : ∃ m, k = m + 1 := ⟨k - 1, by omega⟩
    obtain rfl : i = y.length := by omega
    simp only [cutroomref07_Flat.l0]
    rw [fill_len y c _ hi, if_neg (by omega), fill_all]
    exact rflat_l1 u v hl a b hu w h _ u.length k 0 (by omega) (by omega) (by omega)
  | succ d ih =>
    intro k i hd hi hk
    obtain ⟨k, rfl⟩ : ∃ m, k = m + 1 := ⟨k - 1, by omega⟩
    simp only [cutroomref07_Flat.l0]
    rw [fill_len y c i hi, if_pos (by omega), if_pos (by omega), Int.toNat_natCast, set_fill y c i (by omega), w64id (x := (i : Int) + 1) (by omega) (by omega)]
    have e := ih k (i + 1) (by omega) (by omega) (by omega)
    rw [show ((i + 1 : Nat) : Int) = (i : Int) + 1 from by omega] at e
    exact e
theorem rflat_eq {k : Nat} (hk : 10010 < k) {w h : Int} (s : sized w h) (y u v : Int) :
    cutroomref07_Flat.f k w h y u v = some (w, h, List.replicate (w * h).toNat y, List.replicate (w / 2 * (h / 2)).toNat u, List.replicate (w / 2 * (h / 2)).toNat v) := by
  obtain ⟨a1, a2, a3, a4, a5, a6⟩ := area s.1 s.2.1 s.2.2.1 s.2.2.2.1 s.2.2.2.2.1 s.2.2.2.2.2
  unfold cutroomref07_Flat.f
  rw [blank_eq s]
  simp only [Option.bind_some]
  have e := rflat_l0 (List.replicate (w * h).toNat 0) y (by rw [List.length_replicate]; omega) w h u v (List.replicate (w / 2 * (h / 2)).toNat 0) (List.replicate (w / 2 * (h / 2)).toNat 0) rfl (by rw [List.length_replicate]; omega) _ k 0 rfl (by omega) (by rw [List.length_replicate]; omega)
  simp only [List.length_replicate] at e
  exact e

theorem equal_eq {w h w' h' : Int} {y u v y' u' v' : List Int} (by1 : Bytes y) (bu : Bytes u) (bv : Bytes v) (by2 : Bytes y') (bu2 : Bytes u') (bv2 : Bytes v') :
    cutroomref07_Equal.f w h y u v w' h' y' u' v' = some (decide (w = w' ∧ h = h' ∧ y = y' ∧ u = u' ∧ v = v')) := by
  unfold cutroomref07_Equal.f cutroomref02_SameBytes.f
  rw [same_bytes by1 by2, same_bytes bu bu2, same_bytes bv bv2]
  simp only [Option.bind_some, decide_eq_true_eq]
  by_cases e1 : w = w'
  · rw [if_pos e1]
    by_cases e2 : h = h'
    · rw [if_pos e2]
      by_cases e3 : y = y'
      · rw [if_pos e3]
        by_cases e4 : u = u'
        · rw [if_pos e4]
          congr 1
          rw [Bool.eq_iff_iff, decide_eq_true_iff, decide_eq_true_iff]
          exact ⟨fun z => ⟨e1, e2, e3, e4, z⟩, fun z => z.2.2.2.2⟩
        · rw [if_neg e4, decide_eq_false (fun z => e4 z.2.2.2.1)]
      · rw [if_neg e3, decide_eq_false (fun z => e3 z.2.2.1)]
    · rw [if_neg e2, decide_eq_false (fun z => e2 z.2.1)]
  · rw [if_neg e1, decide_eq_false (fun z => e1 z.1)]

set_option maxRecDepth 100000 in
theorem awake_300 : cutroomlaw07_awake.f 300 = some true := by decide +kernel
theorem awake_eq {k : Nat} (hk : 300 ≤ k) : cutroomlaw07_awake.f k = some true := at_rounds (fun k => cutroomlaw07_awake.mono k) hk awake_300

theorem size_eq (w h : Int) : cutroomref07_Size.f w h = some (decide (sized w h)) := by
  have ht : ∀ x : Int, 2 ≤ x → Int.tmod x 2 = x % 2 := fun x hx => Int.tmod_eq_emod_of_nonneg (by omega)
  unfold cutroomref07_Size.f
  by_cases h1 : w ≥ 2
  · rw [if_pos h1, ht w h1]
    by_cases h2 : w ≤ 64
    · rw [if_pos h2]
      by_cases h3 : w % 2 = 0
      · rw [if_pos h3]
        by_cases h4 : h ≥ 2
        · rw [if_pos h4, ht h h4]
          by_cases h5 : h ≤ 64
          · rw [if_pos h5]; congr 1; rw [Bool.eq_iff_iff, beq_iff_eq, decide_eq_true_iff]; exact ⟨fun z => ⟨h1, h2, h3, h4, h5, z⟩, fun z => z.2.2.2.2.2⟩
          · rw [if_neg h5, decide_eq_false (fun z => h5 z.2.2.2.2.1)]
        · rw [if_neg h4, decide_eq_false (fun z => h4 z.2.2.2.1)]
      · rw [if_neg h3, decide_eq_false (fun z => h3 z.2.2.1)]
    · rw [if_neg h2, decide_eq_false (fun z => h2 z.2.1)]
  · rw [if_neg h1, decide_eq_false (fun z => h1 z.1)]
theorem PlaneFlat : cutroomlaw07_PlaneFlat.Pure := by
  intro w h y u v hw hh hy hu hv
  obtain ⟨y0, y1⟩ := wf8 hy
  obtain ⟨u0, u1⟩ := wf8 hu
  obtain ⟨v0, v1⟩ := wf8 hv
  obtain ⟨k, hk⟩ : ∃ k : Nat, 10010 < k := ⟨_, Nat.lt_succ_self _⟩
  refine ⟨k, ?_⟩
  unfold cutroomlaw07_PlaneFlat.f
  rw [flat_eq (by omega), size_eq, awake_eq (by omega)]
  simp only [Option.bind_some, decide_eq_true_eq]
  by_cases s : sized w h
  · rw [if_pos s, if_pos s, if_pos trivial, rflat_eq hk s]
    simp only [Option.bind_some, if_true]
    rw [equal_eq (rep_bytes y0 y1) (rep_bytes u0 u1) (rep_bytes v0 v1) (rep_bytes y0 y1) (rep_bytes u0 u1) (rep_bytes v0 v1)]
    simp
  · rw [if_neg s, if_neg s, if_pos trivial]
    rfl


end Go.Proofs.Ytalnnbokmpppjaa.Pure
