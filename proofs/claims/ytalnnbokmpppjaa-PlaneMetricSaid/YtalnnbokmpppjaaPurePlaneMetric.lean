/- plane.Distance is symmetric, 0 exactly where plane.Same says true, and not greater on a detour, for every three frames; no condition. -/
import Derived.Test.YtalnnbokmpppjaaPPlaneMetricx1
import Derived.Test.YtalnnbokmpppjaaPPlaneMetricx2
import Derived.Test.YtalnnbokmpppjaaPPlaneMetricx3
import Derived.Test.YtalnnbokmpppjaaPPlaneMetricx4
import Derived.Test.YtalnnbokmpppjaaPPlaneMetricx5
import Derived.Test.YtalnnbokmpppjaaPPlaneMetricx6
import Derived.Test.YtalnnbokmpppjaaPlaneNum
namespace Go.Proofs.Ytalnnbokmpppjaa.Pure
open Go.RowKit Go.Proofs.Ytalnnbokmpppjaa.PPlaneMetric Go.Proofs.YtalnnbokmpppjaaW.PrintWords Go.Proofs.YtalnnbokmpppjaaW.PrintLast Go.Proofs.Ytalnnbokmpppjaa.PlaneNum

theorem formed_eq (w h : Int) (y u v : List Int) : plane_Formed.f w h y u v = some (decide (formed w h y u v)) := by
  unfold plane_Formed.f
  have ht : ∀ x : Int, 2 ≤ x → Int.tmod x 2 = x % 2 := fun x hx => Int.tmod_eq_emod_of_nonneg (by omega)
  by_cases c : 2 ≤ w ∧ w ≤ 64 ∧ w % 2 = 0 ∧ 2 ≤ h ∧ h ≤ 64 ∧ h % 2 = 0
  · obtain ⟨h1, h2, h3, h4, h5, h6⟩ := c
    obtain ⟨a1, a2, a3, a4, a5, a6⟩ := area h1 h2 h3 h4 h5 h6
    rw [if_neg (by omega), if_neg (by omega), ht w h1, if_pos h3, if_neg (by omega), if_neg (by omega), ht h h4, if_pos h6, w64id (by omega) (by omega), Int.tdiv_eq_ediv_of_nonneg a1, w64id (by omega) (by omega), a6]
    by_cases c1 : (y.length : Int) = w * h
    · rw [if_pos c1]
      by_cases c2 : (u.length : Int) = w / 2 * (h / 2)
      · rw [if_pos c2]
        congr 1
        rw [Bool.eq_iff_iff, beq_iff_eq, decide_eq_true_iff]
        unfold formed
        exact ⟨fun z => ⟨⟨h1, h2, h3, h4, h5, h6⟩, c1, c2, z⟩, fun z => z.2.2.2⟩
      · rw [if_neg c2, decide_eq_false (fun z => c2 z.2.2.1)]
    · rw [if_neg c1, decide_eq_false (fun z => c1 z.2.1)]
  · rw [decide_eq_false (fun z => c z.1)]
    by_cases h1 : w < 2
    · rw [if_pos h1]
    rw [if_neg h1]
    by_cases h2 : w > 64
    · rw [if_pos h2]
    rw [if_neg h2, ht w (by omega)]
    by_cases h3 : w % 2 = 0
    · rw [if_pos h3]
      by_cases h4 : h < 2
      · rw [if_pos h4]
      rw [if_neg h4]
      by_cases h5 : h > 64
      · rw [if_pos h5]
      rw [if_neg h5, ht h (by omega)]
      by_cases h6 : h % 2 = 0
      · exact absurd ⟨by omega, by omega, h3, by omega, by omega, h6⟩ c
      · rw [if_neg h6]
    · rw [if_neg h3]

theorem light_some (w h : Int) (y u v : List Int) : cutroomlaw07_light.f w h y u v = some (decide ((y.length : Int) ≤ 5000 ∧ (u.length : Int) ≤ 2000 ∧ (v.length : Int) ≤ 2000)) := by
  unfold cutroomlaw07_light.f
  by_cases c1 : (y.length : Int) ≤ 5000
  · rw [if_pos c1]
    by_cases c2 : (u.length : Int) ≤ 2000
    · rw [if_pos c2]; congr 1; rw [Bool.eq_iff_iff, decide_eq_true_iff, decide_eq_true_iff]; exact ⟨fun z => ⟨c1, c2, z⟩, fun z => z.2.2⟩
    · rw [if_neg c2, decide_eq_false (fun z => c2 z.2.1)]
  · rw [if_neg c1, decide_eq_false (fun z => c1 z.1)]

set_option maxRecDepth 100000 in
theorem awake_300 : cutroomlaw07_awake.f 300 = some true := by decide +kernel
theorem awake_eq {k : Nat} (hk : 300 ≤ k) : cutroomlaw07_awake.f k = some true := at_rounds (fun k => cutroomlaw07_awake.mono k) hk awake_300

theorem apart_l0 (b a : List Int) (hl : a.length = b.length) (hn : a.length < 5001) (ha : Bytes a) (hb : Bytes b) (d : Nat) : ∀ (k : Nat) (n : Int) (i : Nat), a.length - i = d → i ≤ a.length → d < k → 0 ≤ n → n < 256 →
    plane_apart.l0 k b n a (a.length : Int) (i : Int) = some (apartL (a.drop i) (b.drop i) n) := by
  induction d with
  | zero =>
    intro k n i hd hi hk h0 h1
    obtain ⟨k, rfl⟩ : ∃ m, k = m + 1 := ⟨k - 1, by omega⟩
    simp only [plane_apart.l0]
    rw [if_neg (by omega), List.drop_of_length_le (by omega), List.drop_of_length_le (by omega)]
    rfl
  | succ d ih =>
    intro k n i hd hi hk h0 h1
    obtain ⟨k, rfl⟩ : ∃ m, k = m + 1 := ⟨k - 1, by omega⟩
    have r1 := ha.rd (i := (i : Int)) (by omega) (by omega)
    have r2 := hb.rd (i := (i : Int)) (by omega) (by omega)
    simp only [plane_apart.l0]
    rw [if_pos (by omega), if_pos (by omega), if_pos (by omega), if_pos (by omega), w64id (x := rd a i) (by omega) (by omega), w64id (x := rd b i) (by omega) (by omega), w64id (x := rd a i - rd b i) (by omega) (by omega), w64id (x := rd b i - rd a i) (by omega) (by omega),
      w64id (x := (i : Int) + 1) (by omega) (by omega)]
    have e := ih k (mx (mx n (rd a i - rd b i)) (rd b i - rd a i)) (i + 1) (by omega) (by omega) (by omega) (by unfold mx; split <;> split <;> omega) (by unfold mx; split <;> split <;> omega)
    rw [show ((i + 1 : Nat) : Int) = (i : Int) + 1 from by omega] at e
    rw [e, rd_drop (l := a) (i := i) (by omega), rd_drop (l := b) (i := i) (by omega), apartL]
theorem apart_eq {k : Nat} (hk : 5001 < k) {a b : List Int} (hl : a.length = b.length) (hn : a.length < 5001) (ha : Bytes a) (hb : Bytes b) : plane_apart.f k a b = some (apartL a b 0) := by
  unfold plane_apart.f
  exact apart_l0 b a hl hn ha hb a.length k 0 0 (by omega) (by omega) (by omega) (by omega) (by omega)
theorem formed_len {w h : Int} {y u v : List Int} (hf : formed w h y u v) : y.length ≤ 4096 ∧ u.length ≤ 1024 ∧ v.length ≤ 1024 := by
  obtain ⟨a1, a2, a3, a4, _⟩ := area' hf
  obtain ⟨_, h1, h2, h3⟩ := hf
  omega

theorem distance_j0 {k : Nat} (hk : 5002 < k) (b : Bool) {w h w' h' : Int} {y u v y' u' v' : List Int} (hb : b = true ∨ (formed w h y u v ∧ formed w' h' y' u' v' ∧ w = w' ∧ h = h')) (by1 : Bytes y) (bu : Bytes u) (bv : Bytes v) (by2 : Bytes y') (bu2 : Bytes u') (bv2 : Bytes v') :
    plane_Distance.j0 k b w h y u v w' h' y' u' v' = some (if b = true then -1 else mx (mx (apartL y y' 0) (apartL u u' 0)) (apartL v v' 0)) := by
  obtain ⟨k, rfl⟩ : ∃ m, k = m + 1 := ⟨k - 1, by omega⟩
  simp only [plane_Distance.j0]
  by_cases c : b = true
  · rw [if_pos c, if_pos c]
  · rw [if_neg c, if_neg c]
    obtain ⟨f1, f2, rfl, rfl⟩ := hb.resolve_left c
    have l1 := formed_len f1
    have e1 := f1.2; have e2 := f2.2
    rw [apart_eq (by omega) (by omega) (by omega) by1 by2]
    simp only [Option.bind_some]
    rw [apart_eq (by omega) (by omega) (by omega) bu bu2]
    simp only [Option.bind_some]
    rw [apart_eq (by omega) (by omega) (by omega) bv bv2]
    rfl
theorem distance_eq {k : Nat} (hk : 5002 < k) {w h w' h' : Int} {y u v y' u' v' : List Int} (by1 : Bytes y) (bu : Bytes u) (bv : Bytes v) (by2 : Bytes y') (bu2 : Bytes u') (bv2 : Bytes v') :
    plane_Distance.f k w h y u v w' h' y' u' v' = some (dist w h y u v w' h' y' u' v') := by
  unfold plane_Distance.f dist
  rw [formed_eq, formed_eq]
  simp only [Option.bind_some, decide_eq_true_eq]
  by_cases f1 : formed w h y u v
  · by_cases f2 : formed w' h' y' u' v'
    · by_cases e1 : w = w'
      · by_cases e2 : h = h'
        · subst e1; subst e2
          rw [if_pos f1, if_pos f2, if_pos rfl, if_pos ⟨f1, f2, rfl, rfl⟩, distance_j0 hk _ (.inr ⟨f1, f2, rfl, rfl⟩) by1 bu bv by2 bu2 bv2]
          simp
        · rw [if_pos f1, if_pos f2, if_pos e1, if_neg (fun z => e2 z.2.2.2), distance_j0 hk _ (.inl (by simpa using e2)) by1 bu bv by2 bu2 bv2]
          rw [if_pos (by simpa using e2)]
      · rw [if_pos f1, if_pos f2, if_neg e1, if_neg (fun z => e1 z.2.2.1), distance_j0 hk _ (.inl rfl) by1 bu bv by2 bu2 bv2, if_pos rfl]
    · rw [if_pos f1, if_neg f2, if_neg (fun z => f2 z.2.1), distance_j0 hk _ (.inl rfl) by1 bu bv by2 bu2 bv2, if_pos rfl]
  · rw [if_neg f1, if_neg (fun z => f1 z.1), distance_j0 hk _ (.inl rfl) by1 bu bv by2 bu2 bv2, if_pos rfl]

theorem slices_l0 (a b : List Int) (hl : a.length = b.length) (hn : a.length < 5001) (d : Nat) : ∀ (k : Nat) (i : Nat), a.length - i = d → i ≤ a.length → d < k →
    slices_Equal_byte_byte.l0 k a b (a.length : Int) (i : Int) = some (decide (a.drop i = b.drop i)) := by
  induction d with
  | zero =>
    intro k i hd hi hk
    obtain ⟨k, rfl⟩ : ∃ m, k = m + 1 := ⟨k - 1, by omega⟩
    simp only [slices_Equal_byte_byte.l0]
    rw [if_neg (by omega), List.drop_of_length_le (by omega), List.drop_of_length_le (by omega)]
    rfl
  | succ d ih =>
    intro k i hd hi hk
    obtain ⟨k, rfl⟩ : ∃ m, k = m + 1 := ⟨k - 1, by omega⟩
    simp only [slices_Equal_byte_byte.l0]
    rw [if_pos (by omega), if_pos (by omega), if_pos (by omega), if_pos (by omega), w64id (x := (i : Int) + 1) (by omega) (by omega)]
    have e := ih k (i + 1) (by omega) (by omega) (by omega)
    rw [show ((i + 1 : Nat) : Int) = (i : Int) + 1 from by omega] at e
    rw [e, rd_drop (l := a) (i := i) (by omega), rd_drop (l := b) (i := i) (by omega)]
    by_cases c : rd a i = rd b i
    · rw [if_pos c, c]; congr 1; rw [Bool.eq_iff_iff, decide_eq_true_iff, decide_eq_true_iff, List.cons.injEq]; exact ⟨fun z => ⟨rfl, z⟩, fun z => z.2⟩
    · rw [if_neg c, decide_eq_false (by rw [List.cons.injEq]; exact fun z => c z.1)]
theorem slices_eq {k : Nat} (hk : 5001 < k) {a b : List Int} (hn : a.length < 5001) : slices_Equal_byte_byte.f k a b = some (decide (a = b)) := by
  unfold slices_Equal_byte_byte.f
  by_cases c : (a.length : Int) = (b.length : Int)
  · rw [if_pos c, show (0 : Int) = ((0 : Nat) : Int) from rfl, slices_l0 a b (by omega) hn a.length k 0 (by omega) (by omega) (by omega)]
    rfl
  · rw [if_neg c, decide_eq_false (fun z => c (by rw [z]))]
theorem same_eq {k : Nat} (hk : 5001 < k) {w h w' h' : Int} {y u v y' u' v' : List Int} :
    plane_Same.f k w h y u v w' h' y' u' v' = some (decide (formed w h y u v ∧ formed w' h' y' u' v' ∧ w = w' ∧ h = h' ∧ y = y' ∧ u = u' ∧ v = v')) := by
  unfold plane_Same.f
  rw [formed_eq, formed_eq]
  simp only [Option.bind_some, decide_eq_true_eq]
  by_cases f1 : formed w h y u v
  · have l1 := formed_len f1
    rw [if_pos f1]
    by_cases f2 : formed w' h' y' u' v'
    · rw [if_pos f2]
      by_cases e1 : w = w'
      · rw [if_pos e1]
        by_cases e2 : h = h'
        · rw [if_pos e2, slices_eq hk (by omega)]
          simp only [Option.bind_some, decide_eq_true_eq]
          by_cases e3 : y = y'
          · rw [if_pos e3, slices_eq hk (by omega)]
            simp only [Option.bind_some, decide_eq_true_eq]
            by_cases e4 : u = u'
            · rw [if_pos e4, slices_eq hk (by omega)]
              simp only [Option.bind_some]
              congr 1
              rw [Bool.eq_iff_iff, decide_eq_true_iff, decide_eq_true_iff]
              exact ⟨fun z => ⟨f1, f2, e1, e2, e3, e4, z⟩, fun z => z.2.2.2.2.2.2⟩
            · rw [if_neg e4, decide_eq_false (fun z => e4 z.2.2.2.2.2.1)]
          · rw [if_neg e3, decide_eq_false (fun z => e3 z.2.2.2.2.1)]
        · rw [if_neg e2, decide_eq_false (fun z => e2 z.2.2.2.1)]
      · rw [if_neg e1, decide_eq_false (fun z => e1 z.2.2.1)]
    · rw [if_neg f2, decide_eq_false (fun z => f2 z.2.1)]
  · rw [if_neg f1, decide_eq_false (fun z => f1 z.1)]

theorem dist_symm (w h w' h' : Int) (y u v y' u' v' : List Int) : dist w h y u v w' h' y' u' v' = dist w' h' y' u' v' w h y u v := by
  unfold dist
  by_cases c : formed w h y u v ∧ formed w' h' y' u' v' ∧ w = w' ∧ h = h'
  · rw [if_pos c, if_pos ⟨c.2.1, c.1, c.2.2.1.symm, c.2.2.2.symm⟩, apart_symm y, apart_symm u, apart_symm v]
  · rw [if_neg c, if_neg (fun z => c ⟨z.2.1, z.1, z.2.2.1.symm, z.2.2.2.symm⟩)]
theorem dist_zero (w h w' h' : Int) (y u v y' u' v' : List Int) : dist w h y u v w' h' y' u' v' = 0 ↔ (formed w h y u v ∧ formed w' h' y' u' v' ∧ w = w' ∧ h = h' ∧ y = y' ∧ u = u' ∧ v = v') := by
  unfold dist
  by_cases c : formed w h y u v ∧ formed w' h' y' u' v' ∧ w = w' ∧ h = h'
  · rw [if_pos c]
    obtain ⟨f1, f2, rfl, rfl⟩ := c
    have e1 := f1.2; have e2 := f2.2
    have a1 := apart_zero (a := y) (b := y') (by omega)
    have a2 := apart_zero (a := u) (b := u') (by omega)
    have a3 := apart_zero (a := v) (b := v') (by omega)
    have g1 := apart_ge y y' 0; have g2 := apart_ge u u' 0; have g3 := apart_ge v v' 0
    constructor
    · intro z
      unfold mx at z
      have h1 : apartL y y' 0 = 0 ∧ apartL u u' 0 = 0 ∧ apartL v v' 0 = 0 := by
        split at z <;> split at z <;> omega
      exact ⟨f1, f2, rfl, rfl, a1.1 h1.1, a2.1 h1.2.1, a3.1 h1.2.2⟩
    · rintro ⟨_, _, _, _, z1, z2, z3⟩
      rw [a1.2 z1, a2.2 z2, a3.2 z3]
      decide
  · rw [if_neg c]
    exact ⟨fun z => by omega, fun z => absurd ⟨z.1, z.2.1, z.2.2.1, z.2.2.2.1⟩ c⟩
theorem dist_lt {w h w' h' : Int} {y u v y' u' v' : List Int} (by1 : Bytes y) (bu : Bytes u) (bv : Bytes v) (by2 : Bytes y') (bu2 : Bytes u') (bv2 : Bytes v') : dist w h y u v w' h' y' u' v' < 256 := by
  unfold dist
  split
  · have h1 := apart_lt 0 y y' 0 by1 by2 (by omega) (by omega)
    have h2 := apart_lt 0 u u' 0 bu bu2 (by omega) (by omega)
    have h3 := apart_lt 0 v v' 0 bv bv2 (by omega) (by omega)
    unfold mx; split <;> split <;> omega
  · omega
theorem dist_trans {w h w' h' w2 h2 : Int} {y u v y' u' v' y2 u2 v2 : List Int} (p : 0 ≤ dist w h y u v w' h' y' u' v') (q : 0 ≤ dist w' h' y' u' v' w2 h2 y2 u2 v2) :
    dist w h y u v w2 h2 y2 u2 v2 ≤ dist w h y u v w' h' y' u' v' + dist w' h' y' u' v' w2 h2 y2 u2 v2 := by
  unfold dist at p q ⊢
  by_cases c : formed w h y u v ∧ formed w' h' y' u' v' ∧ w = w' ∧ h = h'
  · by_cases c2 : formed w' h' y' u' v' ∧ formed w2 h2 y2 u2 v2 ∧ w' = w2 ∧ h' = h2
    · rw [if_pos c] at p ⊢
      rw [if_pos c2] at q ⊢
      rw [if_pos ⟨c.1, c2.2.1, c.2.2.1.trans c2.2.2.1, c.2.2.2.trans c2.2.2.2⟩]
      obtain ⟨f1, f2, rfl, rfl⟩ := c
      obtain ⟨_, f3, rfl, rfl⟩ := c2
      have e1 := f1.2; have e2 := f2.2
      have t1 := apart_trans (a := y) (b := y') (c := y2) (by omega)
      have t2 := apart_trans (a := u) (b := u') (c := u2) (by omega)
      have t3 := apart_trans (a := v) (b := v') (c := v2) (by omega)
      clear p q
      unfold mx
      repeat' split
      all_goals omega
    · rw [if_neg c2] at q; omega
  · rw [if_neg c] at p; omega
theorem law_j0 {k : Nat} (hk : 5004 < k) {w h w' h' w2 h2 : Int} {y u v y' u' v' y2 u2 v2 : List Int} (by1 : Bytes y) (bu : Bytes u) (bv : Bytes v) (by2 : Bytes y') (bu2 : Bytes u') (bv2 : Bytes v') (by3 : Bytes y2) (bu3 : Bytes u2) (bv3 : Bytes v2) (b : Bool) :
    cutroomlaw07_PlaneMetric.j0 k b w h y u v w' h' y' u' v' w2 h2 y2 u2 v2 = some true := by
  obtain ⟨k, rfl⟩ : ∃ m, k = m + 1 := ⟨k - 1, by omega⟩
  simp only [cutroomlaw07_PlaneMetric.j0]
  by_cases c : b = true
  · rw [if_pos c]
  rw [if_neg c, distance_eq (by omega) by1 bu bv by2 bu2 bv2, distance_eq (by omega) by2 bu2 bv2 by3 bu3 bv3, distance_eq (by omega) by1 bu bv by3 bu3 bv3, distance_eq (by omega) by2 bu2 bv2 by1 bu bv, same_eq (by omega), awake_eq (by omega)]
  simp only [Option.bind_some]
  rw [if_pos (dist_symm _ _ _ _ _ _ _ _ _ _)]
  have z : (((dist w h y u v w' h' y' u' v' == 0) != decide (formed w h y u v ∧ formed w' h' y' u' v' ∧ w = w' ∧ h = h' ∧ y = y' ∧ u = u' ∧ v = v')) = true) ↔ False := by
    have e : decide (formed w h y u v ∧ formed w' h' y' u' v' ∧ w = w' ∧ h = h' ∧ y = y' ∧ u = u' ∧ v = v') = (dist w h y u v w' h' y' u' v' == 0) := by
      rw [Bool.eq_iff_iff, decide_eq_true_iff, beq_iff_eq]
      exact (dist_zero _ _ _ _ _ _ _ _ _ _).symm
    rw [e]
    simp
  rw [if_neg (fun x => z.1 x), if_pos trivial]
  by_cases p : dist w h y u v w' h' y' u' v' < 0
  · rw [if_pos p]
  rw [if_neg p]
  by_cases q : dist w' h' y' u' v' w2 h2 y2 u2 v2 < 0
  · rw [if_pos q]
  rw [if_neg q]
  have l1 := dist_lt (w := w) (h := h) (w' := w') (h' := h') by1 bu bv by2 bu2 bv2
  have l2 := dist_lt (w := w') (h := h') (w' := w2) (h' := h2) by2 bu2 bv2 by3 bu3 bv3
  rw [w64id (by omega) (by omega), decide_eq_true (dist_trans (by omega) (by omega))]
theorem PlaneMetric (w h : Int) (y u v : List Int) (w' h' : Int) (y' u' v' : List Int) (w2 h2 : Int) (y2 u2 v2 : List Int) (_ : (Lit.int .i64 w).wf = true) (_ : (Lit.int .i64 h).wf = true) (hy : (∀ x ∈ y, (Lit.int .u8 x).wf = true) ∧ y.length * 1 ≤ reachBytes)
    (hu : (∀ x ∈ u, (Lit.int .u8 x).wf = true) ∧ u.length * 1 ≤ reachBytes) (hv : (∀ x ∈ v, (Lit.int .u8 x).wf = true) ∧ v.length * 1 ≤ reachBytes) (_ : (Lit.int .i64 w').wf = true) (_ : (Lit.int .i64 h').wf = true) (hy' : (∀ x ∈ y', (Lit.int .u8 x).wf = true) ∧ y'.length * 1 ≤ reachBytes)
    (hu' : (∀ x ∈ u', (Lit.int .u8 x).wf = true) ∧ u'.length * 1 ≤ reachBytes) (hv' : (∀ x ∈ v', (Lit.int .u8 x).wf = true) ∧ v'.length * 1 ≤ reachBytes) (_ : (Lit.int .i64 w2).wf = true) (_ : (Lit.int .i64 h2).wf = true) (hy2 : (∀ x ∈ y2, (Lit.int .u8 x).wf = true) ∧ y2.length * 1 ≤ reachBytes)
    (hu2 : (∀ x ∈ u2, (Lit.int .u8 x).wf = true) ∧ u2.length * 1 ≤ reachBytes) (hv2 : (∀ x ∈ v2, (Lit.int .u8 x).wf = true) ∧ v2.length * 1 ≤ reachBytes) : ∃ k, cutroomlaw07_PlaneMetric.f k w h y u v w' h' y' u' v' w2 h2 y2 u2 v2 = some true := by
  obtain ⟨k, hk⟩ : ∃ k : Nat, 5004 < k := ⟨_, Nat.lt_succ_self _⟩
  refine ⟨k, ?_⟩
  unfold cutroomlaw07_PlaneMetric.f
  rw [light_some, light_some, light_some]
  simp only [Option.bind_some, law_j0 hk (bytes_of hy.1) (bytes_of hu.1) (bytes_of hv.1) (bytes_of hy'.1) (bytes_of hu'.1) (bytes_of hv'.1) (bytes_of hy2.1) (bytes_of hu2.1) (bytes_of hv2.1)]
  split <;> (try split) <;> rfl


end Go.Proofs.Ytalnnbokmpppjaa.Pure
