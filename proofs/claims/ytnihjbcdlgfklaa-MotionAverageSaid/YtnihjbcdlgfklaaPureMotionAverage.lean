/- motion.Average gives what the reference gives, for every two frames; no condition. -/
import Derived.Test.YtnihjbcdlgfklaaPMotionAveragex1
import Derived.Test.YtnihjbcdlgfklaaPMotionAveragex2
import Derived.Test.YtnihjbcdlgfklaaPMotionAveragex3
import Derived.Test.YtnihjbcdlgfklaaPMotionAveragex4
import Derived.Test.YtnihjbcdlgfklaaPMotionAveragex5
import Derived.Test.YtnihjbcdlgfklaaPMotionAveragex6
import Derived.Test.YtnihjbcdlgfklaaPMotionAveragex7
import Derived.Test.YtnihjbcdlgfklaaPlaneNum
namespace Go.Proofs.Ytnihjbcdlgfklaa.Pure
open Go.RowKit Go.Proofs.Ytnihjbcdlgfklaa.PMotionAverage Go.Proofs.YtnihjbcdlgfklaaW.PrintWords Go.Proofs.YtnihjbcdlgfklaaW.PrintLast Go.Proofs.Ytnihjbcdlgfklaa.PlaneNum

theorem formed_eq (w h : Int) (y u v : List Int) : plane_Formed.f w h y u v = some (decide (formed w h y u v)) := by
  unfold plane_Formed.f
  have ht : ∀ x : Int, 2 ≤ x → Int.tmod x 2 = x % 2 := fun x hx => Int.tmod_eq_emod_of_nonneg (by omega)
  by_cases c : 2 ≤ w ∧ w ≤ 64 ∧ w % 2 = 0 ∧ 2 ≤ h ∧ h ≤ 64 ∧ h % 2 = 0
  · obtain ⟨h1, h2, h3, h4, h5, h6⟩ := c
    obtain ⟨a1, a2, a3, a4, a5, a6⟩ := area h1 h2 h3 h4 h5 h6
    rw [if_neg (by omega), if_neg (by omega), ht w h1, if_pos h3, if_neg (by omega), if_neg (by omega), ht h h4, if_pos h6, w64id (by omega) (by omega), Int.tdiv_eq_ediv_of_nonneg a1, w64id (by omega) (by omega), a6]
    by_cases c1 : (y.length : Int) = w * h
    · rw [if_pos c1]
      by_cases c2 : (u.length : Int) = w / 2 * (h / 2)
      · rw [if_pos c2]
        congr 1
        rw [Bool.eq_iff_iff, beq_iff_eq, decide_eq_true_iff]
        unfold formed
        exact ⟨fun z => ⟨⟨h1, h2, h3, h4, h5, h6⟩, c1, c2, z⟩, fun z => z.2.2.2⟩
      · rw [if_neg c2, decide_eq_false (fun z => c2 z.2.2.1)]
    · rw [if_neg c1, decide_eq_false (fun z => c1 z.2.1)]
  · rw [decide_eq_false (fun z => c z.1)]
    by_cases h1 : w < 2
    · rw [if_pos h1]
    rw [if_neg h1]
    by_cases h2 : w > 64
    · rw [if_pos h2]
    rw [if_neg h2, ht w (by omega)]
    by_cases h3 : w % 2 = 0
    · rw [if_pos h3]
      by_cases h4 : h < 2
      · rw [if_pos h4]
      rw [if_neg h4]
      by_cases h5 : h > 64
      · rw [if_pos h5]
      rw [if_neg h5, ht h (by omega)]
      by_cases h6 : h % 2 = 0
      · exact absurd ⟨by omega, by omega, h3, by omega, by omega, h6⟩ c
      · rw [if_neg h6]
    · rw [if_neg h3]

theorem rformed_eq (w h : Int) (y u v : List Int) : cutroomref07_Formed.f w h y u v = some (decide (formed w h y u v)) := by
  unfold cutroomref07_Formed.f
  have ht : ∀ x : Int, 2 ≤ x → Int.tmod x 2 = x % 2 := fun x hx => Int.tmod_eq_emod_of_nonneg (by omega)
  by_cases c : 2 ≤ w ∧ w ≤ 64 ∧ w % 2 = 0 ∧ 2 ≤ h ∧ h ≤ 64 ∧ h % 2 = 0
  · obtain ⟨h1, h2, h3, h4, h5, h6⟩ := c
    obtain ⟨a1, a2, a3, a4, a5, a6⟩ := area h1 h2 h3 h4 h5 h6
    rw [if_neg (by omega), if_neg (by omega), ht w h1, if_pos h3, if_neg (by omega), if_neg (by omega), ht h h4, if_pos h6, w64id (x := w * h) (by omega) (by omega), Int.tdiv_eq_ediv_of_nonneg (show 0 ≤ w by omega), Int.tdiv_eq_ediv_of_nonneg (show 0 ≤ h by omega), w64id (x := w / 2) (by omega) (by omega), w64id (x := h / 2) (by omega) (by omega), w64id (x := w / 2 * (h / 2)) (by omega) (by omega)]
    by_cases c1 : (y.length : Int) = w * h
    · rw [if_pos c1]
      by_cases c2 : (u.length : Int) = w / 2 * (h / 2)
      · rw [if_pos c2]
        congr 1
        rw [Bool.eq_iff_iff, beq_iff_eq, decide_eq_true_iff]
        unfold formed
        exact ⟨fun z => ⟨⟨h1, h2, h3, h4, h5, h6⟩, c1, c2, z⟩, fun z => z.2.2.2⟩
      · rw [if_neg c2, decide_eq_false (fun z => c2 z.2.2.1)]
    · rw [if_neg c1, decide_eq_false (fun z => c1 z.2.1)]
  · rw [decide_eq_false (fun z => c z.1)]
    by_cases h1 : w < 2
    · rw [if_pos h1]
    rw [if_neg h1]
    by_cases h2 : w > 64
    · rw [if_pos h2]
    rw [if_neg h2, ht w (by omega)]
    by_cases h3 : w % 2 = 0
    · rw [if_pos h3]
      by_cases h4 : h < 2
      · rw [if_pos h4]
      rw [if_neg h4]
      by_cases h5 : h > 64
      · rw [if_pos h5]
      rw [if_neg h5, ht h (by omega)]
      by_cases h6 : h % 2 = 0
      · exact absurd ⟨by omega, by omega, h3, by omega, by omega, h6⟩ c
      · rw [if_neg h6]
    · rw [if_neg h3]

theorem formed_len {w h : Int} {y u v : List Int} (hf : formed w h y u v) : y.length ≤ 4096 ∧ u.length ≤ 1024 ∧ v.length ≤ 1024 := by
  obtain ⟨a1, a2, a3, a4, _⟩ := area' hf
  obtain ⟨_, h1, h2, h3⟩ := hf
  omega

theorem set_fill (l : List Int) (v : Int) (i : Nat) (h : i < l.length) : (List.replicate i v ++ l.drop i).set i v = List.replicate (i + 1) v ++ l.drop (i + 1) := by
  rw [List.set_append_right _ _ (by simp), List.length_replicate, Nat.sub_self, List.drop_eq_getElem_cons h, List.set_cons_zero, List.replicate_succ', List.append_assoc]
  rfl
theorem fill_len (l : List Int) (v : Int) (i : Nat) (h : i ≤ l.length) : (List.replicate i v ++ l.drop i).length = l.length := by
  simp; omega
theorem fill_all (l : List Int) (v : Int) : List.replicate l.length v ++ l.drop l.length = List.replicate l.length v := by simp
/-- A size that a frame may have. -/
def sized (w h : Int) : Prop := 2 ≤ w ∧ w ≤ 64 ∧ w % 2 = 0 ∧ 2 ≤ h ∧ h ≤ 64 ∧ h % 2 = 0
instance (w h : Int) : Decidable (sized w h) := by unfold sized; infer_instance
theorem rep_formed {w h y u v : Int} (s : sized w h) : formed w h (List.replicate (w * h).toNat y) (List.replicate (w / 2 * (h / 2)).toNat u) (List.replicate (w / 2 * (h / 2)).toNat v) := by
  obtain ⟨a1, a2, a3, a4, a5, a6⟩ := area s.1 s.2.1 s.2.2.1 s.2.2.2.1 s.2.2.2.2.1 s.2.2.2.2.2
  refine ⟨s, ?_, ?_, ?_⟩ <;> (rw [List.length_replicate]; omega)
theorem rep_bytes {n : Nat} {v : Int} (h0 : 0 ≤ v) (h1 : v < 256) : Bytes (List.replicate n v) := fun x hx => by rw [List.eq_of_mem_replicate hx]; exact ⟨h0, h1⟩

theorem blank_eq {w h : Int} (s : sized w h) : cutroomref07_Blank.f w h = some (w, h, List.replicate (w * h).toNat 0, List.replicate (w / 2 * (h / 2)).toNat 0, List.replicate (w / 2 * (h / 2)).toNat 0) := by
  obtain ⟨a1, a2, a3, a4, a5, a6⟩ := area s.1 s.2.1 s.2.2.1 s.2.2.2.1 s.2.2.2.2.1 s.2.2.2.2.2
  obtain ⟨s1, s2, s3, s4, s5, s6⟩ := s
  unfold cutroomref07_Blank.f
  rw [w64id (x := w * h) (by omega) (by omega), Int.tdiv_eq_ediv_of_nonneg (show 0 ≤ w by omega), Int.tdiv_eq_ediv_of_nonneg (show 0 ≤ h by omega), w64id (x := w / 2) (by omega) (by omega), w64id (x := h / 2) (by omega) (by omega), w64id (x := w / 2 * (h / 2)) (by omega) (by omega),
    if_pos (by omega), if_pos (by omega), if_pos (by omega), if_pos (by omega)]
theorem rflat_l1 (u v : List Int) (hl : u.length = v.length) (a b : Int) (hn : u.length < 5001) (w h : Int) (y : List Int) (d : Nat) : ∀ (k i : Nat), u.length - i = d → i ≤ u.length → d < k →
    cutroomref07_Flat.l1 k a b (i : Int) w h y (List.replicate i a ++ u.drop i) (List.replicate i b ++ v.drop i) = some (w, h, y, List.replicate u.length a, List.replicate u.length b) := by
  induction d with
  | zero =>
    intro k i hd hi hk
    obtain ⟨k, rfl⟩ : ∃ m, k = m + 1 := ⟨k - 1, by omega⟩
    obtain rfl : i = u.length := by omega
    simp only [cutroomref07_Flat.l1]
    rw [fill_len u a _ hi, if_neg (by omega), fill_all, hl, fill_all]
  | succ d ih =>
    intro k i hd hi hk
    obtain ⟨k, rfl⟩ : ∃ m, k = m + 1 := ⟨k - 1, by omega⟩
    simp only [cutroomref07_Flat.l1]
    rw [fill_len u a i hi, fill_len v b i (by omega), if_pos (by omega), if_pos (by omega), if_pos (by omega), Int.toNat_natCast, set_fill u a i (by omega), set_fill v b i (by omega), w64id (x := (i : Int) + 1) (by omega) (by omega)]
    have e := ih k (i + 1) (by omega) (by omega) (by omega)
    rw [show ((i + 1 : Nat) : Int) = (i : Int) + 1 from by omega] at e
    exact e
theorem rflat_l0 (y : List Int) (c : Int) (hn : y.length < 5001) (w h a b : Int) (u v : List Int) (hl : u.length = v.length) (hu : u.length < 5001) (d : Nat) : ∀ (k i : Nat), y.length - i = d → i ≤ y.length → d + 5002 < k →
    cutroomref07_Flat.l0 k c a b (i : Int) w h (List.replicate i c ++ y.drop i) u v = some (w, h, List.replicate y.length c, List.replicate u.length a, List.replicate u.length b) := by
  induction d with
  | zero =>
    intro k i hd hi hk
    obtain ⟨k, rfl⟩ : ∃ m, k = m + 1 := ⟨k - 1, by omega⟩
    obtain rfl : i = y.length := by omega
    simp only [cutroomref07_Flat.l0]
    rw [fill_len y c _ hi, if_neg (by omega), fill_all]
    exact rflat_l1 u v hl a b hu w h _ u.length k 0 (by omega) (by omega) (by omega)
  | succ d ih =>
    intro k i hd hi hk
    obtain ⟨k, rfl⟩ : ∃ m, k = m + 1 := ⟨k - 1, by omega⟩
    simp only [cutroomref07_Flat.l0]
    rw [fill_len y c i hi, if_pos (by omega), if_pos (by omega), Int.toNat_natCast, set_fill y c i (by omega), w64id (x := (i : Int) + 1) (by omega) (by omega)]
    have e := ih k (i + 1) (by omega) (by omega) (by omega)
    rw [show ((i + 1 : Nat) : Int) = (i : Int) + 1 from by omega] at e
    exact e
theorem rflat_eq {k : Nat} (hk : 10010 < k) {w h : Int} (s : sized w h) (y u v : Int) :
    cutroomref07_Flat.f k w h y u v = some (w, h, List.replicate (w * h).toNat y, List.replicate (w / 2 * (h / 2)).toNat u, List.replicate (w / 2 * (h / 2)).toNat v) := by
  obtain ⟨a1, a2, a3, a4, a5, a6⟩ := area s.1 s.2.1 s.2.2.1 s.2.2.2.1 s.2.2.2.2.1 s.2.2.2.2.2
  unfold cutroomref07_Flat.f
  rw [blank_eq s]
  simp only [Option.bind_some]
  have e := rflat_l0 (List.replicate (w * h).toNat 0) y (by rw [List.length_replicate]; omega) w h u v (List.replicate (w / 2 * (h / 2)).toNat 0) (List.replicate (w / 2 * (h / 2)).toNat 0) rfl (by rw [List.length_replicate]; omega) _ k 0 rfl (by omega) (by rw [List.length_replicate]; omega)
  simp only [List.length_replicate] at e
  exact e

theorem equal_eq {w h w' h' : Int} {y u v y' u' v' : List Int} (by1 : Bytes y) (bu : Bytes u) (bv : Bytes v) (by2 : Bytes y') (bu2 : Bytes u') (bv2 : Bytes v') :
    cutroomref07_Equal.f w h y u v w' h' y' u' v' = some (decide (w = w' ∧ h = h' ∧ y = y' ∧ u = u' ∧ v = v')) := by
  unfold cutroomref07_Equal.f cutroomref02_SameBytes.f
  rw [same_bytes by1 by2, same_bytes bu bu2, same_bytes bv bv2]
  simp only [Option.bind_some, decide_eq_true_eq]
  by_cases e1 : w = w'
  · rw [if_pos e1]
    by_cases e2 : h = h'
    · rw [if_pos e2]
      by_cases e3 : y = y'
      · rw [if_pos e3]
        by_cases e4 : u = u'
        · rw [if_pos e4]
          congr 1
          rw [Bool.eq_iff_iff, decide_eq_true_iff, decide_eq_true_iff]
          exact ⟨fun z => ⟨e1, e2, e3, e4, z⟩, fun z => z.2.2.2.2⟩
        · rw [if_neg e4, decide_eq_false (fun z => e4 z.2.2.2.1)]
      · rw [if_neg e3, decide_eq_false (fun z => e3 z.2.2.1)]
    · rw [if_neg e2, decide_eq_false (fun z => e2 z.2.1)]
  · rw [if_neg e1, decide_eq_false (fun z => e1 z.1)]

theorem light_some (w h : Int) (y u v : List Int) : cutroomlaw08_light.f w h y u v = some (decide ((y.length : Int) ≤ 5000 ∧ (u.length : Int) ≤ 2000 ∧ (v.length : Int) ≤ 2000)) := by
  unfold cutroomlaw08_light.f
  by_cases c1 : (y.length : Int) ≤ 5000
  · rw [if_pos c1]
    by_cases c2 : (u.length : Int) ≤ 2000
    · rw [if_pos c2]; congr 1; rw [Bool.eq_iff_iff, decide_eq_true_iff, decide_eq_true_iff]; exact ⟨fun z => ⟨c1, c2, z⟩, fun z => z.2.2⟩
    · rw [if_neg c2, decide_eq_false (fun z => c2 z.2.1)]
  · rw [if_neg c1, decide_eq_false (fun z => c1 z.1)]

/-- The rounded means. -/
def meanL : List Int → List Int → List Int
  | a :: ra, b :: rb => (a + b + 1) / 2 :: meanL ra rb
  | _, _ => []
theorem meanL_len : ∀ (a b : List Int), a.length = b.length → (meanL a b).length = a.length
  | [], [], _ => rfl
  | [], _ :: _, h => by simp at h
  | _ :: _, [], h => by simp at h
  | _ :: ra, _ :: rb, h => by simp [meanL, meanL_len ra rb (by simpa using h)]
theorem meanL_bytes : ∀ (a b : List Int), Bytes a → Bytes b → Bytes (meanL a b)
  | [], _, _, _ => fun x hx => by simp [meanL] at hx
  | _ :: _, [], _, _ => fun x hx => by simp [meanL] at hx
  | a :: ra, b :: rb, ha, hb => fun x hx => by
    have h1 := ha a (by simp); have h2 := hb b (by simp)
    rw [meanL] at hx
    rcases List.mem_cons.1 hx with rfl | hx
    · omega
    · exact meanL_bytes ra rb (fun x h => ha x (by simp [h])) (fun x h => hb x (by simp [h])) x hx
theorem mean_val {x y : Int} (h1 : 0 ≤ x ∧ x < 256) (h2 : 0 ≤ y ∧ y < 256) : (wrap64 (wrap64 (wrap64 x + wrap64 y) + 1) / 2) % 256 = (x + y + 1) / 2 := by
  rw [w64id (x := x) (by omega) (by omega), w64id (x := y) (by omega) (by omega), w64id (x := x + y) (by omega) (by omega), w64id (x := x + y + 1) (by omega) (by omega)]
  omega
theorem mean_drop {a b : List Int} (hl : a.length = b.length) {i : Nat} (h : i < a.length) : meanL (a.drop i) (b.drop i) = (rd a i + rd b i + 1) / 2 :: meanL (a.drop (i + 1)) (b.drop (i + 1)) := by
  rw [rd_drop (l := a) h, rd_drop (l := b) (i := i) (by omega), meanL]
theorem mean_l0 (a b : List Int) (hl : a.length = b.length) (hn : a.length < 5001) (ha : Bytes a) (hb : Bytes b) (d : Nat) : ∀ (k i : Nat) (p : List Int), a.length - i = d → i ≤ a.length → d < k → p.length = i →
    motion_mean.l0 k b (p ++ List.replicate (a.length - i) 0) a (a.length : Int) (i : Int) = some (p ++ meanL (a.drop i) (b.drop i)) := by
  induction d with
  | zero =>
    intro k i p hd hi hk hp
    obtain ⟨k, rfl⟩ : ∃ m, k = m + 1 := ⟨k - 1, by omega⟩
    simp only [motion_mean.l0]
    rw [if_neg (by omega), show a.length - i = 0 from hd, List.drop_of_length_le (by omega), List.drop_of_length_le (by omega)]
    rfl
  | succ d ih =>
    intro k i p hd hi hk hp
    obtain ⟨k, rfl⟩ : ∃ m, k = m + 1 := ⟨k - 1, by omega⟩
    simp only [motion_mean.l0]
    rw [if_pos (by omega), if_pos (by omega), if_pos (by omega), if_pos (by omega), if_pos (by simp; omega), mean_val (ha.rd (by omega) (by omega)) (hb.rd (by omega) (by omega)), w64id (x := (i : Int) + 1) (by omega) (by omega), Int.toNat_natCast]
    have e := ih k (i + 1) (p ++ [(rd a i + rd b i + 1) / 2]) (by omega) (by omega) (by omega) (by simp [hp])
    rw [show ((i + 1 : Nat) : Int) = (i : Int) + 1 from by omega] at e
    have s : (p ++ List.replicate (a.length - i) 0).set i ((rd a i + rd b i + 1) / 2) = p ++ [(rd a i + rd b i + 1) / 2] ++ List.replicate (a.length - (i + 1)) 0 := by
      rw [List.set_append_right _ _ (by omega), hp, Nat.sub_self, show a.length - i = (a.length - (i + 1)) + 1 from by omega, List.replicate_succ, List.set_cons_zero, List.append_assoc]
      rfl
    rw [s, e, mean_drop (i := i) hl (by omega), List.append_assoc]
    rfl
theorem mean_eq {k : Nat} (hk : 5001 < k) {a b : List Int} (hl : a.length = b.length) (hn : a.length < 5001) (ha : Bytes a) (hb : Bytes b) : motion_mean.f k a b = some (meanL a b) := by
  unfold motion_mean.f
  rw [if_pos (by omega), if_pos (by omega), Int.toNat_natCast]
  exact mean_l0 a b hl hn ha hb a.length k 0 [] (by omega) (by omega) (by omega) rfl
theorem rmean_l0 (a b : List Int) (hl : a.length = b.length) (hn : a.length < 5001) (ha : Bytes a) (hb : Bytes b) (d : Nat) : ∀ (k i : Nat) (p : List Int), a.length - i = d → i ≤ a.length → d < k → p.length = i →
    cutroomref08_mean.l0 k a b p (i : Int) = some (p ++ meanL (a.drop i) (b.drop i)) := by
  induction d with
  | zero =>
    intro k i p hd hi hk hp
    obtain ⟨k, rfl⟩ : ∃ m, k = m + 1 := ⟨k - 1, by omega⟩
    simp only [cutroomref08_mean.l0]
    rw [if_neg (by omega), List.drop_of_length_le (by omega), List.drop_of_length_le (by omega)]
    simp [meanL]
  | succ d ih =>
    intro k i p hd hi hk hp
    obtain ⟨k, rfl⟩ : ∃ m, k = m + 1 := ⟨k - 1, by omega⟩
    simp only [cutroomref08_mean.l0]
    rw [if_pos (by omega), if_pos (by omega), if_pos (by omega), if_pos (by omega), mean_val (ha.rd (by omega) (by omega)) (hb.rd (by omega) (by omega)), w64id (x := (i : Int) + 1) (by omega) (by omega)]
    have e := ih k (i + 1) (p ++ [(rd a i + rd b i + 1) / 2]) (by omega) (by omega) (by omega) (by simp [hp])
    rw [show ((i + 1 : Nat) : Int) = (i : Int) + 1 from by omega] at e
    rw [e, mean_drop (i := i) hl (by omega), List.append_assoc]
    rfl
theorem rmean_eq {k : Nat} (hk : 5001 < k) {a b : List Int} (hl : a.length = b.length) (hn : a.length < 5001) (ha : Bytes a) (hb : Bytes b) : cutroomref08_mean.f k a b = some (meanL a b) := by
  unfold cutroomref08_mean.f
  exact rmean_l0 a b hl hn ha hb a.length k 0 [] (by omega) (by omega) (by omega) rfl

/-- The mean of two frames, or the error. -/
def avgS (w h : Int) (y u v : List Int) (w' h' : Int) (y' u' v' : List Int) : Int × Int × List Int × List Int × List Int × Int :=
  if formed w h y u v ∧ formed w' h' y' u' v' ∧ w = w' ∧ h = h' then (w, h, meanL y y', meanL u u', meanL v v', 0) else (0, 0, [], [], [], 1)
theorem average_j0 {k : Nat} (hk : 5002 < k) (b : Bool) {w h w' h' : Int} {y u v y' u' v' : List Int} (hb : b = true ∨ (formed w h y u v ∧ formed w' h' y' u' v' ∧ w = w' ∧ h = h')) (by1 : Bytes y) (bu : Bytes u) (bv : Bytes v) (by2 : Bytes y') (bu2 : Bytes u') (bv2 : Bytes v') :
    motion_Average.j0 k b w h y u v w' h' y' u' v' = some (if b = true then (0, 0, [], [], [], 1) else (w, h, meanL y y', meanL u u', meanL v v', 0)) := by
  obtain ⟨k, rfl⟩ : ∃ m, k = m + 1 := ⟨k - 1, by omega⟩
  simp only [motion_Average.j0]
  by_cases c : b = true
  · rw [if_pos c, if_pos c]
  · rw [if_neg c, if_neg c]
    obtain ⟨f1, f2, rfl, rfl⟩ := hb.resolve_left c
    have l1 := formed_len f1
    have e1 := f1.2; have e2 := f2.2
    rw [mean_eq (by omega) (by omega) (by omega) by1 by2]
    simp only [Option.bind_some]
    rw [mean_eq (by omega) (by omega) (by omega) bu bu2]
    simp only [Option.bind_some]
    rw [mean_eq (by omega) (by omega) (by omega) bv bv2]
    rfl
theorem average_eq {k : Nat} (hk : 5002 < k) {w h w' h' : Int} {y u v y' u' v' : List Int} (by1 : Bytes y) (bu : Bytes u) (bv : Bytes v) (by2 : Bytes y') (bu2 : Bytes u') (bv2 : Bytes v') :
    motion_Average.f k w h y u v w' h' y' u' v' = some (avgS w h y u v w' h' y' u' v') := by
  unfold motion_Average.f avgS
  rw [formed_eq, formed_eq]
  simp only [Option.bind_some, decide_eq_true_eq]
  by_cases f1 : formed w h y u v
  · by_cases f2 : formed w' h' y' u' v'
    · by_cases e1 : w = w'
      · by_cases e2 : h = h'
        · subst e1; subst e2
          rw [if_pos f1, if_pos f2, if_pos rfl, if_pos (⟨f1, f2, rfl, rfl⟩ : formed w h y u v ∧ formed w h y' u' v' ∧ w = w ∧ h = h), average_j0 hk _ (.inr ⟨f1, f2, rfl, rfl⟩) by1 bu bv by2 bu2 bv2]
          simp
        · rw [if_pos f1, if_pos f2, if_pos e1, if_neg (fun z : formed w h y u v ∧ formed w' h' y' u' v' ∧ w = w' ∧ h = h' => e2 z.2.2.2), average_j0 hk _ (.inl (by simpa using e2)) by1 bu bv by2 bu2 bv2]
          rw [if_pos (by simpa using e2)]
      · rw [if_pos f1, if_pos f2, if_neg e1, if_neg (fun z : formed w h y u v ∧ formed w' h' y' u' v' ∧ w = w' ∧ h = h' => e1 z.2.2.1), average_j0 hk _ (.inl rfl) by1 bu bv by2 bu2 bv2, if_pos rfl]
    · rw [if_pos f1, if_neg f2, if_neg (fun z : formed w h y u v ∧ formed w' h' y' u' v' ∧ w = w' ∧ h = h' => f2 z.2.1), average_j0 hk _ (.inl rfl) by1 bu bv by2 bu2 bv2, if_pos rfl]
  · rw [if_neg f1, if_neg (fun z : formed w h y u v ∧ formed w' h' y' u' v' ∧ w = w' ∧ h = h' => f1 z.1), average_j0 hk _ (.inl rfl) by1 bu bv by2 bu2 bv2, if_pos rfl]

theorem raverage_j0 {k : Nat} (hk : 5002 < k) (b : Bool) {w h w' h' : Int} {y u v y' u' v' : List Int} (hb : b = true ∨ (formed w h y u v ∧ formed w' h' y' u' v' ∧ w = w' ∧ h = h')) (by1 : Bytes y) (bu : Bytes u) (bv : Bytes v) (by2 : Bytes y') (bu2 : Bytes u') (bv2 : Bytes v') :
    cutroomref08_Average.j0 k b w h y u v w' h' y' u' v' = some (if b = true then (0, 0, [], [], [], 1) else (w, h, meanL y y', meanL u u', meanL v v', 0)) := by
  obtain ⟨k, rfl⟩ : ∃ m, k = m + 1 := ⟨k - 1, by omega⟩
  simp only [cutroomref08_Average.j0]
  by_cases c : b = true
  · rw [if_pos c, if_pos c]
  · rw [if_neg c, if_neg c]
    obtain ⟨f1, f2, rfl, rfl⟩ := hb.resolve_left c
    have l1 := formed_len f1
    have e1 := f1.2; have e2 := f2.2
    rw [rmean_eq (by omega) (by omega) (by omega) by1 by2]
    simp only [Option.bind_some]
    rw [rmean_eq (by omega) (by omega) (by omega) bu bu2]
    simp only [Option.bind_some]
    rw [rmean_eq (by omega) (by omega) (by omega) bv bv2]
    rfl
theorem raverage_eq {k : Nat} (hk : 5002 < k) {w h w' h' : Int} {y u v y' u' v' : List Int} (by1 : Bytes y) (bu : Bytes u) (bv : Bytes v) (by2 : Bytes y') (bu2 : Bytes u') (bv2 : Bytes v') :
    cutroomref08_Average.f k w h y u v w' h' y' u' v' = some (avgS w h y u v w' h' y' u' v') := by
  unfold cutroomref08_Average.f avgS
  rw [rformed_eq, rformed_eq]
  simp only [Option.bind_some, decide_eq_true_eq]
  by_cases f1 : formed w h y u v
  · by_cases f2 : formed w' h' y' u' v'
    · by_cases e1 : w = w'
      · by_cases e2 : h = h'
        · subst e1; subst e2
          rw [if_pos f1, if_pos f2, if_pos rfl, if_pos (⟨f1, f2, rfl, rfl⟩ : formed w h y u v ∧ formed w h y' u' v' ∧ w = w ∧ h = h), raverage_j0 hk _ (.inr ⟨f1, f2, rfl, rfl⟩) by1 bu bv by2 bu2 bv2]
          simp
        · rw [if_pos f1, if_pos f2, if_pos e1, if_neg (fun z : formed w h y u v ∧ formed w' h' y' u' v' ∧ w = w' ∧ h = h' => e2 z.2.2.2), raverage_j0 hk _ (.inl (by simpa using e2)) by1 bu bv by2 bu2 bv2]
          rw [if_pos (by simpa using e2)]
      · rw [if_pos f1, if_pos f2, if_neg e1, if_neg (fun z : formed w h y u v ∧ formed w' h' y' u' v' ∧ w = w' ∧ h = h' => e1 z.2.2.1), raverage_j0 hk _ (.inl rfl) by1 bu bv by2 bu2 bv2, if_pos rfl]
    · rw [if_pos f1, if_neg f2, if_neg (fun z : formed w h y u v ∧ formed w' h' y' u' v' ∧ w = w' ∧ h = h' => f2 z.2.1), raverage_j0 hk _ (.inl rfl) by1 bu bv by2 bu2 bv2, if_pos rfl]
  · rw [if_neg f1, if_neg (fun z : formed w h y u v ∧ formed w' h' y' u' v' ∧ w = w' ∧ h = h' => f1 z.1), raverage_j0 hk _ (.inl rfl) by1 bu bv by2 bu2 bv2, if_pos rfl]

theorem awake_eq {k : Nat} (hk : 10010 < k) : cutroomlaw08_awake.f k = some true := by
  have s : sized 16 16 := by decide
  have b : ∀ (n : Nat) (v : Int), 0 ≤ v → v < 256 → Bytes (List.replicate n v) := fun n v h0 h1 => rep_bytes h0 h1
  unfold cutroomlaw08_awake.f
  rw [rflat_eq hk s, rflat_eq hk s]
  simp only [Option.bind_some]
  rw [average_eq (by omega) (b _ _ (by omega) (by omega)) (b _ _ (by omega) (by omega)) (b _ _ (by omega) (by omega)) (b _ _ (by omega) (by omega)) (b _ _ (by omega) (by omega)) (b _ _ (by omega) (by omega))]
  have e : avgS 16 16 (List.replicate (16 * 16 : Int).toNat 1) (List.replicate (16 / 2 * (16 / 2) : Int).toNat 0) (List.replicate (16 / 2 * (16 / 2) : Int).toNat 0) 16 16 (List.replicate (16 * 16 : Int).toNat 2) (List.replicate (16 / 2 * (16 / 2) : Int).toNat 0) (List.replicate (16 / 2 * (16 / 2) : Int).toNat 1) =
      (16, 16, List.replicate (16 * 16 : Int).toNat 2, List.replicate (16 / 2 * (16 / 2) : Int).toNat 0, List.replicate (16 / 2 * (16 / 2) : Int).toNat 1, 0) := by decide +kernel
  rw [e]
  simp only [Option.bind_some, if_true]
  rw [equal_eq (b _ _ (by omega) (by omega)) (b _ _ (by omega) (by omega)) (b _ _ (by omega) (by omega)) (b _ _ (by omega) (by omega)) (b _ _ (by omega) (by omega)) (b _ _ (by omega) (by omega))]
  simp

theorem avgS_bytes (w h w' h' : Int) {y u v y' u' v' : List Int} (by1 : Bytes y) (bu : Bytes u) (bv : Bytes v) (by2 : Bytes y') (bu2 : Bytes u') (bv2 : Bytes v') :
    Bytes (avgS w h y u v w' h' y' u' v').2.2.1 ∧ Bytes (avgS w h y u v w' h' y' u' v').2.2.2.1 ∧ Bytes (avgS w h y u v w' h' y' u' v').2.2.2.2.1 := by
  unfold avgS
  split
  · exact ⟨meanL_bytes _ _ by1 by2, meanL_bytes _ _ bu bu2, meanL_bytes _ _ bv bv2⟩
  · have e : Bytes [] := fun x hx => by cases hx
    exact ⟨e, e, e⟩
theorem law_j0 {k : Nat} (hk : 10011 < k) {w h w' h' : Int} {y u v y' u' v' : List Int} (by1 : Bytes y) (bu : Bytes u) (bv : Bytes v) (by2 : Bytes y') (bu2 : Bytes u') (bv2 : Bytes v') (b : Bool) :
    cutroomlaw08_MotionAverage.j0 k b w h y u v w' h' y' u' v' = some true := by
  obtain ⟨k, rfl⟩ : ∃ m, k = m + 1 := ⟨k - 1, by omega⟩
  simp only [cutroomlaw08_MotionAverage.j0]
  by_cases c : b = true
  · rw [if_pos c]
  obtain ⟨b1, b2, b3⟩ := avgS_bytes w h w' h' by1 bu bv by2 bu2 bv2
  rw [if_neg c, average_eq (by omega) by1 bu bv by2 bu2 bv2, raverage_eq (by omega) by1 bu bv by2 bu2 bv2, awake_eq (by omega)]
  simp only [Option.bind_some, if_true]
  rw [equal_eq b1 b2 b3 b1 b2 b3]
  simp
theorem MotionAverage (w h : Int) (y u v : List Int) (w' h' : Int) (y' u' v' : List Int) (_ : (Lit.int .i64 w).wf = true) (_ : (Lit.int .i64 h).wf = true) (hy : (∀ x ∈ y, (Lit.int .u8 x).wf = true) ∧ y.length * 1 ≤ reachBytes)
    (hu : (∀ x ∈ u, (Lit.int .u8 x).wf = true) ∧ u.length * 1 ≤ reachBytes) (hv : (∀ x ∈ v, (Lit.int .u8 x).wf = true) ∧ v.length * 1 ≤ reachBytes) (_ : (Lit.int .i64 w').wf = true) (_ : (Lit.int .i64 h').wf = true) (hy' : (∀ x ∈ y', (Lit.int .u8 x).wf = true) ∧ y'.length * 1 ≤ reachBytes)
    (hu' : (∀ x ∈ u', (Lit.int .u8 x).wf = true) ∧ u'.length * 1 ≤ reachBytes) (hv' : (∀ x ∈ v', (Lit.int .u8 x).wf = true) ∧ v'.length * 1 ≤ reachBytes) : ∃ k, cutroomlaw08_MotionAverage.f k w h y u v w' h' y' u' v' = some true := by
  obtain ⟨k, hk⟩ : ∃ k : Nat, 10011 < k := ⟨_, Nat.lt_succ_self _⟩
  refine ⟨k, ?_⟩
  unfold cutroomlaw08_MotionAverage.f
  rw [light_some, light_some]
  simp only [Option.bind_some, law_j0 hk (bytes_of hy.1) (bytes_of hu.1) (bytes_of hv.1) (bytes_of hy'.1) (bytes_of hu'.1) (bytes_of hv'.1)]
  split <;> rfl


end Go.Proofs.Ytnihjbcdlgfklaa.Pure
