/- Predicting from a mirrored picture with a mirrored vector gives the mirrored luma prediction; no condition. -/
import Derived.Test.YtnihjbcdlgfklaaPMotionMirrorx1
import Derived.Test.YtnihjbcdlgfklaaPMotionMirrorx2
import Derived.Test.YtnihjbcdlgfklaaPMotionMirrorx3
import Derived.Test.YtnihjbcdlgfklaaPMotionMirrorx4
import Derived.Test.YtnihjbcdlgfklaaPMotionMirrorx5
import Derived.Test.YtnihjbcdlgfklaaPMotionMirrorx6
import Derived.Test.YtnihjbcdlgfklaaPMotionMirrorx7
import Derived.Test.YtnihjbcdlgfklaaPMotionMirrorx8
import Derived.Test.YtnihjbcdlgfklaaPMotionMirrorx9
import Derived.Test.YtnihjbcdlgfklaaVMotionMirrorPlaneNum
namespace Go.Proofs.Ytnihjbcdlgfklaa.Pure
open Go.RowKit Go.Proofs.Ytnihjbcdlgfklaa.PMotionMirror Go.Proofs.YtnihjbcdlgfklaaW.PrintWords Go.Proofs.YtnihjbcdlgfklaaW.PrintLast Go.Proofs.Ytnihjbcdlgfklaa.PlaneNum

theorem formed_eq (w h : Int) (y u v : List Int) : plane_Formed.f w h y u v = some (decide (formed w h y u v)) := by
  unfold plane_Formed.f
  have ht : ∀ x : Int, 2 ≤ x → Int.tmod x 2 = x % 2 := fun x hx => Int.tmod_eq_emod_of_nonneg (by omega)
  by_cases c : 2 ≤ w ∧ w ≤ 64 ∧ w % 2 = 0 ∧ 2 ≤ h ∧ h ≤ 64 ∧ h % 2 = 0
  · obtain ⟨h1, h2, h3, h4, h5, h6⟩ := c
    obtain ⟨a1, a2, a3, a4, a5, a6⟩ := area h1 h2 h3 h4 h5 h6
    rw [if_neg (by omega), if_neg (by omega), ht w h1, if_pos h3, if_neg (by omega), if_neg (by omega), ht h h4, if_pos h6, w64id (by omega) (by omega), Int.tdiv_eq_ediv_of_nonneg a1, w64id (by omega) (by omega), a6]
    by_cases c1 : (y.length : Int) = w * h
    · rw [if_pos c1]
      by_cases c2 : (u.length : Int) = w / 2 * (h / 2)
      · rw [if_pos c2]
        congr 1
        rw [Bool.eq_iff_iff, beq_iff_eq, decide_eq_true_iff]
        unfold formed
        exact ⟨fun z => ⟨⟨h1, h2, h3, h4, h5, h6⟩, c1, c2, z⟩, fun z => z.2.2.2⟩
      · rw [if_neg c2, decide_eq_false (fun z => c2 z.2.2.1)]
    · rw [if_neg c1, decide_eq_false (fun z => c1 z.2.1)]
  · rw [decide_eq_false (fun z => c z.1)]
    by_cases h1 : w < 2
    · rw [if_pos h1]
    rw [if_neg h1]
    by_cases h2 : w > 64
    · rw [if_pos h2]
    rw [if_neg h2, ht w (by omega)]
    by_cases h3 : w % 2 = 0
    · rw [if_pos h3]
      by_cases h4 : h < 2
      · rw [if_pos h4]
      rw [if_neg h4]
      by_cases h5 : h > 64
      · rw [if_pos h5]
      rw [if_neg h5, ht h (by omega)]
      by_cases h6 : h % 2 = 0
      · exact absurd ⟨by omega, by omega, h3, by omega, by omega, h6⟩ c
      · rw [if_neg h6]
    · rw [if_neg h3]

theorem formed_len {w h : Int} {y u v : List Int} (hf : formed w h y u v) : y.length ≤ 4096 ∧ u.length ≤ 1024 ∧ v.length ≤ 1024 := by
  obtain ⟨a1, a2, a3, a4, _⟩ := area' hf
  obtain ⟨_, h1, h2, h3⟩ := hf
  omega

theorem set_fill (l : List Int) (v : Int) (i : Nat) (h : i < l.length) : (List.replicate i v ++ l.drop i).set i v = List.replicate (i + 1) v ++ l.drop (i + 1) := by
  rw [List.set_append_right _ _ (by simp), List.length_replicate, Nat.sub_self, List.drop_eq_getElem_cons h, List.set_cons_zero, List.replicate_succ', List.append_assoc]
  rfl
theorem fill_len (l : List Int) (v : Int) (i : Nat) (h : i ≤ l.length) : (List.replicate i v ++ l.drop i).length = l.length := by
  simp; omega
theorem fill_all (l : List Int) (v : Int) : List.replicate l.length v ++ l.drop l.length = List.replicate l.length v := by simp
/-- A size that a frame may have. -/
def sized (w h : Int) : Prop := 2 ≤ w ∧ w ≤ 64 ∧ w % 2 = 0 ∧ 2 ≤ h ∧ h ≤ 64 ∧ h % 2 = 0
instance (w h : Int) : Decidable (sized w h) := by unfold sized; infer_instance
theorem rep_formed {w h y u v : Int} (s : sized w h) : formed w h (List.replicate (w * h).toNat y) (List.replicate (w / 2 * (h / 2)).toNat u) (List.replicate (w / 2 * (h / 2)).toNat v) := by
  obtain ⟨a1, a2, a3, a4, a5, a6⟩ := area s.1 s.2.1 s.2.2.1 s.2.2.2.1 s.2.2.2.2.1 s.2.2.2.2.2
  refine ⟨s, ?_, ?_, ?_⟩ <;> (rw [List.length_replicate]; omega)
theorem rep_bytes {n : Nat} {v : Int} (h0 : 0 ≤ v) (h1 : v < 256) : Bytes (List.replicate n v) := fun x hx => by rw [List.eq_of_mem_replicate hx]; exact ⟨h0, h1⟩

theorem blank_eq {w h : Int} (s : sized w h) : cutroomref07_Blank.f w h = some (w, h, List.replicate (w * h).toNat 0, List.replicate (w / 2 * (h / 2)).toNat 0, List.replicate (w / 2 * (h / 2)).toNat 0) := by
  obtain ⟨a1, a2, a3, a4, a5, a6⟩ := area s.1 s.2.1 s.2.2.1 s.2.2.2.1 s.2.2.2.2.1 s.2.2.2.2.2
  obtain ⟨s1, s2, s3, s4, s5, s6⟩ := s
  unfold cutroomref07_Blank.f
  rw [w64id (x := w * h) (by omega) (by omega), Int.tdiv_eq_ediv_of_nonneg (show 0 ≤ w by omega), Int.tdiv_eq_ediv_of_nonneg (show 0 ≤ h by omega), w64id (x := w / 2) (by omega) (by omega), w64id (x := h / 2) (by omega) (by omega), w64id (x := w / 2 * (h / 2)) (by omega) (by omega),
    if_pos (by omega), if_pos (by omega), if_pos (by omega), if_pos (by omega)]
theorem rflat_l1 (u v : List Int) (hl : u.length = v.length) (a b : Int) (hn : u.length < 5001) (w h : Int) (y : List Int) (d : Nat) : ∀ (k i : Nat), u.length - i = d → i ≤ u.length → d < k →
    cutroomref07_Flat.l1 k a b (i : Int) w h y (List.replicate i a ++ u.drop i) (List.replicate i b ++ v.drop i) = some (w, h, y, List.replicate u.length a, List.replicate u.length b) := by
  induction d with
  | zero =>
    intro k i hd hi hk
    obtain ⟨k, rfl⟩ : ∃ m, k = m + 1 := ⟨k - 1, by omega⟩
    obtain rfl : i = u.length := by omega
    simp only [cutroomref07_Flat.l1]
    rw [fill_len u a _ hi, if_neg (by omega), fill_all, hl, fill_all]
  | succ d ih =>
    intro k i hd hi hk
    obtain ⟨k, rfl⟩ : ∃ m, k = m + 1 := ⟨k - 1, by omega⟩
    simp only [cutroomref07_Flat.l1]
    rw [fill_len u a i hi, fill_len v b i (by omega), if_pos (by omega), if_pos (by omega), if_pos (by omega), Int.toNat_natCast, set_fill u a i (by omega), set_fill v b i (by omega), w64id (x := (i : Int) + 1) (by omega) (by omega)]
    have e := ih k (i + 1) (by omega) (by omega) (by omega)
    rw [show ((i + 1 : Nat) : Int) = (i : Int) + 1 from by omega] at e
    exact e
theorem rflat_l0 (y : List Int) (c : Int) (hn : y.length < 5001) (w h a b : Int) (u v : List Int) (hl : u.length = v.length) (hu : u.length < 5001) (d : Nat) : ∀ (k i : Nat), y.length - i = d → i ≤ y.length → d + 5002 < k →
    cutroomref07_Flat.l0 k c a b (i : Int) w h (List.replicate i c ++ y.drop i) u v = some (w, h, List.replicate y.length c, List.replicate u.length a, List.replicate u.length b) := by
  induction d with
  | zero =>
    intro k i hd hi hk
    obtain ⟨k, rfl⟩ : ∃ m, k = m + 1 := ⟨k - 1, by omega⟩
    obtain rfl : i = y.length := by omega
    simp only [cutroomref07_Flat.l0]
    rw [fill_len y c _ hi, if_neg (by omega), fill_all]
    exact rflat_l1 u v hl a b hu w h _ u.length k 0 (by omega) (by omega) (by omega)
  | succ d ih =>
    intro k i hd hi hk
    obtain ⟨k, rfl⟩ : ∃ m, k = m + 1 := ⟨k - 1, by omega⟩
    simp only [cutroomref07_Flat.l0]
    rw [fill_len y c i hi, if_pos (by omega), if_pos (by omega), Int.toNat_natCast, set_fill y c i (by omega), w64id (x := (i : Int) + 1) (by omega) (by omega)]
    have e := ih k (i + 1) (by omega) (by omega) (by omega)
    rw [show ((i + 1 : Nat) : Int) = (i : Int) + 1 from by omega] at e
    exact e
theorem rflat_eq {k : Nat} (hk : 10010 < k) {w h : Int} (s : sized w h) (y u v : Int) :
    cutroomref07_Flat.f k w h y u v = some (w, h, List.replicate (w * h).toNat y, List.replicate (w / 2 * (h / 2)).toNat u, List.replicate (w / 2 * (h / 2)).toNat v) := by
  obtain ⟨a1, a2, a3, a4, a5, a6⟩ := area s.1 s.2.1 s.2.2.1 s.2.2.2.1 s.2.2.2.2.1 s.2.2.2.2.2
  unfold cutroomref07_Flat.f
  rw [blank_eq s]
  simp only [Option.bind_some]
  have e := rflat_l0 (List.replicate (w * h).toNat 0) y (by rw [List.length_replicate]; omega) w h u v (List.replicate (w / 2 * (h / 2)).toNat 0) (List.replicate (w / 2 * (h / 2)).toNat 0) rfl (by rw [List.length_replicate]; omega) _ k 0 rfl (by omega) (by rw [List.length_replicate]; omega)
  simp only [List.length_replicate] at e
  exact e

theorem equal_eq {w h w' h' : Int} {y u v y' u' v' : List Int} (by1 : Bytes y) (bu : Bytes u) (bv : Bytes v) (by2 : Bytes y') (bu2 : Bytes u') (bv2 : Bytes v') :
    cutroomref07_Equal.f w h y u v w' h' y' u' v' = some (decide (w = w' ∧ h = h' ∧ y = y' ∧ u = u' ∧ v = v')) := by
  unfold cutroomref07_Equal.f cutroomref02_SameBytes.f
  rw [same_bytes by1 by2, same_bytes bu bu2, same_bytes bv bv2]
  simp only [Option.bind_some, decide_eq_true_eq]
  by_cases e1 : w = w'
  · rw [if_pos e1]
    by_cases e2 : h = h'
    · rw [if_pos e2]
      by_cases e3 : y = y'
      · rw [if_pos e3]
        by_cases e4 : u = u'
        · rw [if_pos e4]
          congr 1
          rw [Bool.eq_iff_iff, decide_eq_true_iff, decide_eq_true_iff]
          exact ⟨fun z => ⟨e1, e2, e3, e4, z⟩, fun z => z.2.2.2.2⟩
        · rw [if_neg e4, decide_eq_false (fun z => e4 z.2.2.2.1)]
      · rw [if_neg e3, decide_eq_false (fun z => e3 z.2.2.1)]
    · rw [if_neg e2, decide_eq_false (fun z => e2 z.2.1)]
  · rw [if_neg e1, decide_eq_false (fun z => e1 z.1)]

theorem light_some (w h : Int) (y u v : List Int) : cutroomlaw08_light.f w h y u v = some (decide ((y.length : Int) ≤ 5000 ∧ (u.length : Int) ≤ 2000 ∧ (v.length : Int) ≤ 2000)) := by
  unfold cutroomlaw08_light.f
  by_cases c1 : (y.length : Int) ≤ 5000
  · rw [if_pos c1]
    by_cases c2 : (u.length : Int) ≤ 2000
    · rw [if_pos c2]; congr 1; rw [Bool.eq_iff_iff, decide_eq_true_iff, decide_eq_true_iff]; exact ⟨fun z => ⟨c1, c2, z⟩, fun z => z.2.2⟩
    · rw [if_neg c2, decide_eq_false (fun z => c2 z.2.1)]
  · rw [if_neg c1, decide_eq_false (fun z => c1 z.1)]

/-- The rounded means. -/
def meanL : List Int → List Int → List Int
  | a :: ra, b :: rb => (a + b + 1) / 2 :: meanL ra rb
  | _, _ => []
theorem meanL_len : ∀ (a b : List Int), a.length = b.length → (meanL a b).length = a.length
  | [], [], _ => rfl
  | [], _ :: _, h => by simp at h
  | _ :: _, [], h => by simp at h
  | _ :: ra, _ :: rb, h => by simp [meanL, meanL_len ra rb (by simpa using h)]
theorem meanL_bytes : ∀ (a b : List Int), Bytes a → Bytes b → Bytes (meanL a b)
  | [], _, _, _ => fun x hx => by simp [meanL] at hx
  | _ :: _, [], _, _ => fun x hx => by simp [meanL] at hx
  | a :: ra, b :: rb, ha, hb => fun x hx => by
    have h1 := ha a (by simp); have h2 := hb b (by simp)
    rw [meanL] at hx
    rcases List.mem_cons.1 hx with rfl | hx
    · omega
    · exact meanL_bytes ra rb (fun x h => ha x (by simp [h])) (fun x h => hb x (by simp [h])) x hx
theorem mean_val {x y : Int} (h1 : 0 ≤ x ∧ x < 256) (h2 : 0 ≤ y ∧ y < 256) : (wrap64 (wrap64 (wrap64 x + wrap64 y) + 1) / 2) % 256 = (x + y + 1) / 2 := by
  rw [w64id (x := x) (by omega) (by omega), w64id (x := y) (by omega) (by omega), w64id (x := x + y) (by omega) (by omega), w64id (x := x + y + 1) (by omega) (by omega)]
  omega
theorem mean_drop {a b : List Int} (hl : a.length = b.length) {i : Nat} (h : i < a.length) : meanL (a.drop i) (b.drop i) = (rd a i + rd b i + 1) / 2 :: meanL (a.drop (i + 1)) (b.drop (i + 1)) := by
  rw [rd_drop (l := a) h, rd_drop (l := b) (i := i) (by omega), meanL]
theorem mean_l0 (a b : List Int) (hl : a.length = b.length) (hn : a.length < 5001) (ha : Bytes a) (hb : Bytes b) (d : Nat) : ∀ (k i : Nat) (p : List Int), a.length - i = d → i ≤ a.length → d < k → p.length = i →
    motion_mean.l0 k b (p ++ List.replicate (a.length - i) 0) a (a.length : Int) (i : Int) = some (p ++ meanL (a.drop i) (b.drop i)) := by
  induction d with
  | zero =>
    intro k i p hd hi hk hp
    obtain ⟨k, rfl⟩ : ∃ m, k = m + 1 := ⟨k - 1, by omega⟩
    simp only [motion_mean.l0]
    rw [if_neg (by omega), show a.length - i = 0 from hd, List.drop_of_length_le (by omega), List.drop_of_length_le (by omega)]
    rfl
  | succ d ih =>
    intro k i p hd hi hk hp
    obtain ⟨k, rfl⟩ : ∃ m, k = m + 1 := ⟨k - 1, by omega⟩
    simp only [motion_mean.l0]
    rw [if_pos (by omega), if_pos (by omega), if_pos (by omega), if_pos (by omega), if_pos (by simp; omega), mean_val (ha.rd (by omega) (by omega)) (hb.rd (by omega) (by omega)), w64id (x := (i : Int) + 1) (by omega) (by omega), Int.toNat_natCast]
    have e := ih k (i + 1) (p ++ [(rd a i + rd b i + 1) / 2]) (by omega) (by omega) (by omega) (by simp [hp])
    rw [show ((i + 1 : Nat) : Int) = (i : Int) + 1 from by omega] at e
    have s : (p ++ List.replicate (a.length - i) 0).set i ((rd a i + rd b i + 1) / 2) = p ++ [(rd a i + rd b i + 1) / 2] ++ List.replicate (a.length - (i + 1)) 0 := by
      rw [List.set_append_right _ _ (by omega), hp, Nat.sub_self, show a.length - i = (a.length - (i + 1)) + 1 from by omega, List.replicate_succ, List.set_cons_zero, List.append_assoc]
      rfl
    rw [s, e, mean_drop (i := i) hl (by omega), List.append_assoc]
    rfl
theorem mean_eq {k : Nat} (hk : 5001 < k) {a b : List Int} (hl : a.length = b.length) (hn : a.length < 5001) (ha : Bytes a) (hb : Bytes b) : motion_mean.f k a b = some (meanL a b) := by
  unfold motion_mean.f
  rw [if_pos (by omega), if_pos (by omega), Int.toNat_natCast]
  exact mean_l0 a b hl hn ha hb a.length k 0 [] (by omega) (by omega) (by omega) rfl

/-- The mean of two frames, or the error. -/
def avgS (w h : Int) (y u v : List Int) (w' h' : Int) (y' u' v' : List Int) : Int × Int × List Int × List Int × List Int × Int :=
  if formed w h y u v ∧ formed w' h' y' u' v' ∧ w = w' ∧ h = h' then (w, h, meanL y y', meanL u u', meanL v v', 0) else (0, 0, [], [], [], 1)
theorem average_j0 {k : Nat} (hk : 5002 < k) (b : Bool) {w h w' h' : Int} {y u v y' u' v' : List Int} (hb : b = true ∨ (formed w h y u v ∧ formed w' h' y' u' v' ∧ w = w' ∧ h = h')) (by1 : Bytes y) (bu : Bytes u) (bv : Bytes v) (by2 : Bytes y') (bu2 : Bytes u') (bv2 : Bytes v') :
    motion_Average.j0 k b w h y u v w' h' y' u' v' = some (if b = true then (0, 0, [], [], [], 1) else (w, h, meanL y y', meanL u u', meanL v v', 0)) := by
  obtain ⟨k, rfl⟩ : ∃ m, k = m + 1 := ⟨k - 1, by omega⟩
  simp only [motion_Average.j0]
  by_cases c : b = true
  · rw [if_pos c, if_pos c]
  · rw [if_neg c, if_neg c]
    obtain ⟨f1, f2, rfl, rfl⟩ := hb.resolve_left c
    have l1 := formed_len f1
    have e1 := f1.2; have e2 := f2.2
    rw [mean_eq (by omega) (by omega) (by omega) by1 by2]
    simp only [Option.bind_some]
    rw [mean_eq (by omega) (by omega) (by omega) bu bu2]
    simp only [Option.bind_some]
    rw [mean_eq (by omega) (by omega) (by omega) bv bv2]
    rfl
theorem average_eq {k : Nat} (hk : 5002 < k) {w h w' h' : Int} {y u v y' u' v' : List Int} (by1 : Bytes y) (bu : Bytes u) (bv : Bytes v) (by2 : Bytes y') (bu2 : Bytes u') (bv2 : Bytes v') :
    motion_Average.f k w h y u v w' h' y' u' v' = some (avgS w h y u v w' h' y' u' v') := by
  unfold motion_Average.f avgS
  rw [formed_eq, formed_eq]
  simp only [Option.bind_some, decide_eq_true_eq]
  by_cases f1 : formed w h y u v
  · by_cases f2 : formed w' h' y' u' v'
    · by_cases e1 : w = w'
      · by_cases e2 : h = h'
        · subst e1; subst e2
          rw [if_pos f1, if_pos f2, if_pos rfl, if_pos (⟨f1, f2, rfl, rfl⟩ : formed w h y u v ∧ formed w h y' u' v' ∧ w = w ∧ h = h), average_j0 hk _ (.inr ⟨f1, f2, rfl, rfl⟩) by1 bu bv by2 bu2 bv2]
          simp
        · rw [if_pos f1, if_pos f2, if_pos e1, if_neg (fun z : formed w h y u v ∧ formed w' h' y' u' v' ∧ w = w' ∧ h = h' => e2 z.2.2.2), average_j0 hk _ (.inl (by simpa using e2)) by1 bu bv by2 bu2 bv2]
          rw [if_pos (by simpa using e2)]
      · rw [if_pos f1, if_pos f2, if_neg e1, if_neg (fun z : formed w h y u v ∧ formed w' h' y' u' v' ∧ w = w' ∧ h = h' => e1 z.2.2.1), average_j0 hk _ (.inl rfl) by1 bu bv by2 bu2 bv2, if_pos rfl]
    · rw [if_pos f1, if_neg f2, if_neg (fun z : formed w h y u v ∧ formed w' h' y' u' v' ∧ w = w' ∧ h = h' => f2 z.2.1), average_j0 hk _ (.inl rfl) by1 bu bv by2 bu2 bv2, if_pos rfl]
  · rw [if_neg f1, if_neg (fun z : formed w h y u v ∧ formed w' h' y' u' v' ∧ w = w' ∧ h = h' => f1 z.1), average_j0 hk _ (.inl rfl) by1 bu bv by2 bu2 bv2, if_pos rfl]

theorem awake_eq {k : Nat} (hk : 10010 < k) : cutroomlaw08_awake.f k = some true := by
  have s : sized 16 16 := by decide
  have b : ∀ (n : Nat) (v : Int), 0 ≤ v → v < 256 → Bytes (List.replicate n v) := fun n v h0 h1 => rep_bytes h0 h1
  unfold cutroomlaw08_awake.f
  rw [rflat_eq hk s, rflat_eq hk s]
  simp only [Option.bind_some]
  rw [average_eq (by omega) (b _ _ (by omega) (by omega)) (b _ _ (by omega) (by omega)) (b _ _ (by omega) (by omega)) (b _ _ (by omega) (by omega)) (b _ _ (by omega) (by omega)) (b _ _ (by omega) (by omega))]
  have e : avgS 16 16 (List.replicate (16 * 16 : Int).toNat 1) (List.replicate (16 / 2 * (16 / 2) : Int).toNat 0) (List.replicate (16 / 2 * (16 / 2) : Int).toNat 0) 16 16 (List.replicate (16 * 16 : Int).toNat 2) (List.replicate (16 / 2 * (16 / 2) : Int).toNat 0) (List.replicate (16 / 2 * (16 / 2) : Int).toNat 1) =
      (16, 16, List.replicate (16 * 16 : Int).toNat 2, List.replicate (16 / 2 * (16 / 2) : Int).toNat 0, List.replicate (16 / 2 * (16 / 2) : Int).toNat 1, 0) := by decide +kernel
  rw [e]
  simp only [Option.bind_some, if_true]
  rw [equal_eq (b _ _ (by omega) (by omega)) (b _ _ (by omega) (by omega)) (b _ _ (by omega) (by omega)) (b _ _ (by omega) (by omega)) (b _ _ (by omega) (by omega)) (b _ _ (by omega) (by omega))]
  simp

theorem and1 (x : Int) : Go.bits .and .i64 x 1 = x % 2 := by
  have h : (BitVec.ofInt 64 x &&& BitVec.ofInt 64 1).toNat = (x % 2).toNat := by
    rw [BitVec.toNat_and, BitVec.toNat_ofInt, show (BitVec.ofInt 64 1).toNat = 1 from by decide, Nat.and_one_is_mod]
    omega
  have e : Go.bits .and .i64 x 1 = IntKind.i64.wrap ((BitVec.ofInt 64 x &&& BitVec.ofInt 64 1).toNat : Int) := rfl
  rw [e, h, i64_w, w64id (by omega) (by omega)]
  omega
/-- The nearest of 0 .. n - 1. -/
def clampS (x n : Int) : Int := if x < 0 then 0 else if n - 1 < x then n - 1 else x
theorem clampS_bd {x n : Int} (h : 1 ≤ n) : 0 ≤ clampS x n ∧ clampS x n ≤ n - 1 := by
  unfold clampS; split
  · omega
  · split <;> omega
theorem clamp_eq {x n : Int} (h : 1 ≤ n) (hn : n ≤ 64) : mn (mx x 0) (wrap64 (n - 1)) = clampS x n := by
  rw [w64id (by omega) (by omega)]
  unfold mn mx clampS
  (repeat' split) <;> omega
theorem clamp_eq' {x n : Int} (h : 1 ≤ n) : mx 0 (mn x (n - 1)) = clampS x n := by
  unfold mn mx clampS
  (repeat' split) <;> omega
/-- A sample; beyond the edges the nearest one. -/
def sampS (l : List Int) (cw ch x y : Int) : Int := rd l (clampS y ch * cw + clampS x cw)
theorem place {cw ch x y : Int} (hw : 1 ≤ cw) (hh : 1 ≤ ch) : 0 ≤ clampS y ch * cw + clampS x cw ∧ clampS y ch * cw + clampS x cw < cw * ch ∧ 0 ≤ clampS y ch * cw ∧ clampS y ch * cw ≤ cw * ch := by
  obtain ⟨a1, a2⟩ := clampS_bd (x := x) hw
  obtain ⟨b1, b2⟩ := clampS_bd (x := y) hh
  have h1 : 0 ≤ clampS y ch * cw := Int.mul_nonneg b1 (by omega)
  have h2 : clampS y ch * cw ≤ (ch - 1) * cw := Int.mul_le_mul_of_nonneg_right b2 (by omega)
  rw [Int.sub_mul, Int.one_mul, Int.mul_comm ch cw] at h2
  omega
/-- The component's sizes and its samples fit. -/
def CompOk (l : List Int) (cw ch : Int) : Prop := 1 ≤ cw ∧ cw ≤ 64 ∧ 1 ≤ ch ∧ ch ≤ 64 ∧ (l.length : Int) = cw * ch ∧ l.length ≤ 5000 ∧ Bytes l
theorem sampS_bd {l : List Int} {cw ch : Int} (h : CompOk l cw ch) (x y : Int) : 0 ≤ sampS l cw ch x y ∧ sampS l cw ch x y < 256 := by
  obtain ⟨h1, h2, h3, h4, h5, h6, h7⟩ := h
  obtain ⟨p1, p2, _⟩ := place (x := x) (y := y) h1 h3
  exact h7.rd p1 (by omega)
theorem at_eq {l : List Int} {cw ch : Int} (h : CompOk l cw ch) (x y : Int) : motion_component_at.f l cw ch x y = some (sampS l cw ch x y) := by
  have hb := sampS_bd h x y
  obtain ⟨h1, h2, h3, h4, h5, h6, h7⟩ := h
  obtain ⟨p1, p2, p3, p4⟩ := place (x := x) (y := y) h1 h3
  unfold motion_component_at.f
  rw [clamp_eq h1 h2, clamp_eq h3 h4, w64id (x := clampS y ch * cw) (by omega) (by omega), w64id (x := clampS y ch * cw + clampS x cw) (by omega) (by omega), if_pos p1, if_pos (by omega)]
  unfold sampS at hb ⊢
  rw [w64id (by omega) (by omega)]
/-- The sample at a half-sample position. -/
def halfS (l : List Int) (cw ch p q : Int) : Int :=
  if p % 2 = 0 then
    (if q % 2 = 0 then sampS l cw ch (p / 2) (q / 2) else (sampS l cw ch (p / 2) (q / 2) + sampS l cw ch (p / 2) (q / 2 + 1) + 1) / 2)
  else
    (if q % 2 = 0 then (sampS l cw ch (p / 2) (q / 2) + sampS l cw ch (p / 2 + 1) (q / 2) + 1) / 2
     else (sampS l cw ch (p / 2) (q / 2) + sampS l cw ch (p / 2 + 1) (q / 2) + sampS l cw ch (p / 2) (q / 2 + 1) + sampS l cw ch (p / 2 + 1) (q / 2 + 1) + 2) / 4)
theorem halfS_bd {l : List Int} {cw ch : Int} (h : CompOk l cw ch) (p q : Int) : 0 ≤ halfS l cw ch p q ∧ halfS l cw ch p q < 256 := by
  have h1 := sampS_bd h (p / 2) (q / 2)
  have h2 := sampS_bd h (p / 2 + 1) (q / 2)
  have h3 := sampS_bd h (p / 2) (q / 2 + 1)
  have h4 := sampS_bd h (p / 2 + 1) (q / 2 + 1)
  unfold halfS
  (repeat' split) <;> omega
theorem sum2 {a b : Int} (h1 : 0 ≤ a ∧ a < 256) (h2 : 0 ≤ b ∧ b < 256) : (wrap64 (wrap64 (a + b) + 1) / 2) % 256 = (a + b + 1) / 2 := by
  rw [w64id (x := a + b) (by omega) (by omega), w64id (by omega) (by omega)]
  omega
theorem sum4 {a b c d : Int} (h1 : 0 ≤ a ∧ a < 256) (h2 : 0 ≤ b ∧ b < 256) (h3 : 0 ≤ c ∧ c < 256) (h4 : 0 ≤ d ∧ d < 256) : (wrap64 (wrap64 (wrap64 (wrap64 (a + b) + c) + d) + 2) / 4) % 256 = (a + b + c + d + 2) / 4 := by
  rw [w64id (x := a + b) (by omega) (by omega), w64id (x := a + b + c) (by omega) (by omega), w64id (x := a + b + c + d) (by omega) (by omega), w64id (by omega) (by omega)]
  omega
theorem half_eq {l : List Int} {cw ch : Int} (h : CompOk l cw ch) {p q : Int} (hp : -4611686018427387904 ≤ p ∧ p < 4611686018427387904) (hq : -4611686018427387904 ≤ q ∧ q < 4611686018427387904) :
    motion_predicted_1.f p q l cw ch = some (halfS l cw ch p q) := by
  unfold motion_predicted_1.f halfS
  rw [and1, and1, w64id (x := p / 2 + 1) (by omega) (by omega), w64id (x := q / 2 + 1) (by omega) (by omega)]
  simp only [at_eq h]
  have h1 := sampS_bd h (p / 2) (q / 2)
  have h2 := sampS_bd h (p / 2 + 1) (q / 2)
  have h3 := sampS_bd h (p / 2) (q / 2 + 1)
  have h4 := sampS_bd h (p / 2 + 1) (q / 2 + 1)
  split
  · split
    · congr 1; omega
    · rw [sum2 h1 h3]
  · split
    · rw [sum2 h1 h2]
    · rw [sum4 h1 h2 h3 h4]
/-- g i, g (i + 1), .. : n of them. -/
def rowFrom (g : Int → Int) : Int → Nat → List Int
  | _, 0 => []
  | i, n + 1 => g i :: rowFrom g (i + 1) n
def rowsFrom (g : Int → List Int) : Int → Nat → List Int
  | _, 0 => []
  | j, n + 1 => g j ++ rowsFrom g (j + 1) n
theorem rowFrom_len (g : Int → Int) : ∀ (n : Nat) (i : Int), (rowFrom g i n).length = n
  | 0, _ => rfl
  | n + 1, i => by rw [rowFrom, List.length_cons, rowFrom_len g n]
theorem rowsFrom_len {g : Int → List Int} {m : Nat} (hg : ∀ j, (g j).length = m) : ∀ (n : Nat) (i : Int), (rowsFrom g i n).length = n * m
  | 0, _ => by simp [rowsFrom]
  | n + 1, i => by rw [rowsFrom, List.length_append, rowsFrom_len hg n, hg, Nat.succ_mul, Nat.add_comm]
theorem rowFrom_mem {P : Int → Prop} {g : Int → Int} (h : ∀ i, P (g i)) : ∀ (n : Nat) (i x : Int), x ∈ rowFrom g i n → P x
  | 0, _, _, hx => by cases hx
  | n + 1, i, x, hx => by
    rcases List.mem_cons.1 hx with rfl | hx
    · exact h i
    · exact rowFrom_mem h n (i + 1) x hx
theorem rowsFrom_mem {P : Int → Prop} {g : Int → List Int} (h : ∀ j, ∀ x ∈ g j, P x) : ∀ (n : Nat) (j x : Int), x ∈ rowsFrom g j n → P x
  | 0, _, _, hx => by cases hx
  | n + 1, j, x, hx => by
    rcases List.mem_append.1 hx with hx | hx
    · exact h j x hx
    · exact rowsFrom_mem h n (j + 1) x hx
/-- A predicted rectangle of a component. -/
def predS (l : List Int) (cw ch x y : Int) (w h : Nat) (vx vy : Int) : List Int :=
  rowsFrom (fun j => rowFrom (fun i => halfS l cw ch (2 * (x + i) + vx) (2 * (y + j) + vy)) 0 w) 0 h
theorem predS_len (l : List Int) (cw ch x y : Int) (w h : Nat) (vx vy : Int) : (predS l cw ch x y w h vx vy).length = h * w := rowsFrom_len (fun _ => rowFrom_len _ _ _) _ _
theorem predS_bytes {l : List Int} {cw ch : Int} (hc : CompOk l cw ch) (x y : Int) (w h : Nat) (vx vy : Int) : Bytes (predS l cw ch x y w h vx vy) :=
  rowsFrom_mem (fun _ => rowFrom_mem (fun _ => halfS_bd hc _ _) _ _) _ _

section
variable {l : List Int} {cw ch x y vx vy : Int}
theorem coord {x i vx : Int} (hx : 0 ≤ x ∧ x ≤ 64) (hi : 0 ≤ i ∧ i ≤ 64) (hv : -63 ≤ vx ∧ vx ≤ 63) : wrap64 (wrap64 (2 * wrap64 (x + i)) + vx) = 2 * (x + i) + vx := by
  rw [w64id (x := x + i) (by omega) (by omega), w64id (x := 2 * (x + i)) (by omega) (by omega), w64id (by omega) (by omega)]
theorem pred_l1 (hc : CompOk l cw ch) (hx : 0 ≤ x ∧ x ≤ 64) (hy : 0 ≤ y ∧ y ≤ 64) (hvx : -63 ≤ vx ∧ vx ≤ 63) (hvy : -63 ≤ vy ∧ vy ≤ 63) {w h j : Int} (hw : w ≤ 16) (hj : 0 ≤ j ∧ j < 16) (d : Nat) : ∀ (k : Nat) (i : Int) (acc : List Int), w - i = d → 0 ≤ i → d < k → acc.length + d ≤ 5000 →
    motion_predicted.l1 k x y w acc j h j w i l cw ch vx vy = motion_predicted.l0 (k - d - 1) x y w (acc ++ rowFrom (fun i => halfS l cw ch (2 * (x + i) + vx) (2 * (y + j) + vy)) i d) h (j + 1) l cw ch vx vy := by
  induction d with
  | zero =>
    intro k i acc hd hi hk ha
    obtain ⟨k, rfl⟩ : ∃ m, k = m + 1 := ⟨k - 1, by omega⟩
    simp only [motion_predicted.l1]
    rw [if_neg (by omega), w64id (x := j + 1) (by omega) (by omega), rowFrom, List.append_nil]
    rfl
  | succ d ih =>
    intro k i acc hd hi hk ha
    obtain ⟨k, rfl⟩ : ∃ m, k = m + 1 := ⟨k - 1, by omega⟩
    simp only [motion_predicted.l1]
    rw [if_pos (by omega), coord hx (by omega) hvx, coord hy (by omega) hvy, half_eq hc (by omega) (by omega), Option.bind_some, if_pos (by omega), w64id (x := i + 1) (by omega) (by omega), ih k (i + 1) _ (by omega) (by omega) (by omega) (by simp; omega), rowFrom, List.append_assoc]
    rw [show k + 1 - (d + 1) - 1 = k - d - 1 from by omega]
    rfl
theorem pred_l0 (hc : CompOk l cw ch) (hx : 0 ≤ x ∧ x ≤ 64) (hy : 0 ≤ y ∧ y ≤ 64) (hvx : -63 ≤ vx ∧ vx ≤ 63) (hvy : -63 ≤ vy ∧ vy ≤ 63) (w : Nat) {h : Int} (hw : w ≤ 16) (hh : h ≤ 16) (d : Nat) : ∀ (k : Nat) (j : Int) (acc : List Int), h - j = d → 0 ≤ j → d * (w + 2) < k → acc.length + d * w ≤ 5000 →
    motion_predicted.l0 k x y w acc h j l cw ch vx vy = some (acc ++ rowsFrom (fun j => rowFrom (fun i => halfS l cw ch (2 * (x + i) + vx) (2 * (y + j) + vy)) 0 w) j d) := by
  induction d with
  | zero =>
    intro k j acc hd hj hk ha
    obtain ⟨k, rfl⟩ : ∃ m, k = m + 1 := ⟨k - 1, by omega⟩
    simp only [motion_predicted.l0]
    rw [if_neg (by omega), rowsFrom, List.append_nil]
  | succ d ih =>
    intro k j acc hd hj hk ha
    rw [Nat.succ_mul] at hk ha
    obtain ⟨k, rfl⟩ : ∃ m, k = m + 1 := ⟨k - 1, by omega⟩
    simp only [motion_predicted.l0]
    rw [if_pos (by omega), pred_l1 hc hx hy hvx hvy (by omega) (by omega) w k 0 acc (by omega) (by omega) (by omega) (by omega), ih _ _ _ (by omega) (by omega) (by omega) (by rw [List.length_append, rowFrom_len]; omega), rowsFrom, List.append_assoc]
theorem predicted_eq {k : Nat} (hk : 300 < k) (hc : CompOk l cw ch) (hx : 0 ≤ x ∧ x ≤ 64) (hy : 0 ≤ y ∧ y ≤ 64) (hvx : -63 ≤ vx ∧ vx ≤ 63) (hvy : -63 ≤ vy ∧ vy ≤ 63) (w h : Nat) (hw : w ≤ 16) (hh : h ≤ 16) :
    motion_predicted.f k l cw ch x y w h vx vy = some (predS l cw ch x y w h vx vy) := by
  have m1 : h * (w + 2) ≤ 16 * 18 := Nat.mul_le_mul hh (by omega)
  have m2 : h * w ≤ 16 * 16 := Nat.mul_le_mul hh hw
  have m3 : (w : Int) * h = ((h * w : Nat) : Int) := by rw [Int.natCast_mul, Int.mul_comm]
  unfold motion_predicted.f
  rw [m3, w64id (by omega) (by omega), if_pos (by omega), if_pos (by omega), pred_l0 hc hx hy hvx hvy w hw (by omega) h k 0 [] (by omega) (by omega) (by omega) (by simp; omega)]
  rfl
end

/-- Where a part may lie. -/
def PartOk (w h X Y W H : Int) : Prop := W = 16 ∧ (H = 16 ∨ H = 8) ∧ 0 ≤ X ∧ 0 ≤ Y ∧ X % 2 = 0 ∧ Y % 2 = 0 ∧ X ≤ w - W ∧ Y ≤ h - H
instance (w h X Y W H : Int) : Decidable (PartOk w h X Y W H) := by unfold PartOk; infer_instance
def MayS (vx vy : Int) : Prop := -63 ≤ vx ∧ vx ≤ 63 ∧ -63 ≤ vy ∧ vy ≤ 63
instance (vx vy : Int) : Decidable (MayS vx vy) := by unfold MayS; infer_instance
/-- The prediction of a part, or the error. -/
def predictS (w h : Int) (y u v : List Int) (X Y W H vx vy : Int) : Int × Int × List Int × List Int × List Int × Int :=
  if formed w h y u v ∧ PartOk w h X Y W H then
    (if MayS vx vy then
      (W, H, predS y w h X Y 16 H.toNat vx vy, predS u (w / 2) (h / 2) (X / 2) (Y / 2) 8 (H / 2).toNat (Int.tdiv vx 2) (Int.tdiv vy 2), predS v (w / 2) (h / 2) (X / 2) (Y / 2) 8 (H / 2).toNat (Int.tdiv vx 2) (Int.tdiv vy 2), 0)
     else (0, 0, [], [], [], 2))
  else (0, 0, [], [], [], 1)
theorem compOk_y {w h : Int} {y u v : List Int} (hf : formed w h y u v) (hy : Bytes y) : CompOk y w h := by
  have hl := formed_len hf
  obtain ⟨⟨h1, h2, h3, h4, h5, h6⟩, e1, e2, e3⟩ := hf
  exact ⟨by omega, h2, by omega, h5, e1, by omega, hy⟩
theorem compOk_u {w h : Int} {y u v : List Int} (hf : formed w h y u v) (hu : Bytes u) : CompOk u (w / 2) (h / 2) := by
  have hl := formed_len hf
  obtain ⟨⟨h1, h2, h3, h4, h5, h6⟩, e1, e2, e3⟩ := hf
  exact ⟨by omega, by omega, by omega, by omega, e2, by omega, hu⟩
theorem compOk_v {w h : Int} {y u v : List Int} (hf : formed w h y u v) (hv : Bytes v) : CompOk v (w / 2) (h / 2) := by
  have hl := formed_len hf
  obtain ⟨⟨h1, h2, h3, h4, h5, h6⟩, e1, e2, e3⟩ := hf
  exact ⟨by omega, by omega, by omega, by omega, e3, by omega, hv⟩
theorem half_in {x : Int} (h : -63 ≤ x ∧ x ≤ 63) : -63 ≤ Int.tdiv x 2 ∧ Int.tdiv x 2 ≤ 63 := by
  rcases Int.le_total 0 x with c | c
  · rw [Int.tdiv_eq_ediv_of_nonneg c]; omega
  · obtain ⟨n, rfl⟩ : ∃ n : Int, x = -n := ⟨-x, by omega⟩
    rw [Int.neg_tdiv, Int.tdiv_eq_ediv_of_nonneg (by omega)]; omega
theorem predictS_bytes (w h : Int) {y u v : List Int} (X Y W H vx vy : Int) (by1 : Bytes y) (bu : Bytes u) (bv : Bytes v) :
    Bytes (predictS w h y u v X Y W H vx vy).2.2.1 ∧ Bytes (predictS w h y u v X Y W H vx vy).2.2.2.1 ∧ Bytes (predictS w h y u v X Y W H vx vy).2.2.2.2.1 := by
  have e : Bytes [] := fun x hx => by cases hx
  unfold predictS
  split
  · rename_i hf
    split
    · exact ⟨predS_bytes (compOk_y hf.1 by1) _ _ _ _ _ _, predS_bytes (compOk_u hf.1 bu) _ _ _ _ _ _, predS_bytes (compOk_v hf.1 bv) _ _ _ _ _ _⟩
    · exact ⟨e, e, e⟩
  · exact ⟨e, e, e⟩
theorem predictS_yes {w h X Y W H vx vy : Int} {y u v : List Int} (hf : formed w h y u v) (hp : PartOk w h X Y W H) (q : MayS vx vy) : predictS w h y u v X Y W H vx vy =
    (W, H, predS y w h X Y 16 H.toNat vx vy, predS u (w / 2) (h / 2) (X / 2) (Y / 2) 8 (H / 2).toNat (Int.tdiv vx 2) (Int.tdiv vy 2), predS v (w / 2) (h / 2) (X / 2) (Y / 2) 8 (H / 2).toNat (Int.tdiv vx 2) (Int.tdiv vy 2), 0) := by
  unfold predictS
  rw [if_pos (⟨hf, hp⟩ : formed w h y u v ∧ PartOk w h X Y W H), if_pos q]

theorem short_eq (x : Int) : motion_short.f x = some (decide (-63 ≤ x ∧ x ≤ 63)) := by
  unfold motion_short.f
  by_cases c : x ≥ -63
  · rw [if_pos c]; congr 1; rw [decide_eq_decide]; omega
  · rw [if_neg c, decide_eq_false (by omega)]
theorem may_eq (x y : Int) : motion_mayMove.f x y = some (decide (MayS x y)) := by
  unfold motion_mayMove.f
  rw [short_eq, short_eq]
  simp only [Option.bind_some]
  by_cases c : -63 ≤ x ∧ x ≤ 63
  · rw [if_pos (decide_eq_true c)]; congr 1; rw [decide_eq_decide]; unfold MayS; omega
  · rw [if_neg (by simpa using c), decide_eq_false (fun z : MayS x y => c ⟨z.1, z.2.1⟩)]
theorem outside_eq {w h : Int} (hw : 2 ≤ w ∧ w ≤ 64) (hh : 2 ≤ h ∧ h ≤ 64) (y u v : List Int) (X Y W H : Int) (hW : W = 16) (hH : H = 16 ∨ H = 8) : motion_outside.f w h y u v X Y W H = some (decide (¬ PartOk w h X Y W H)) := by
  have ht : ∀ x : Int, ¬ x < 0 → Int.tmod x 2 = x % 2 := fun x hx => Int.tmod_eq_emod_of_nonneg (by omega)
  unfold motion_outside.f
  have m : PartOk w h X Y W H ↔ W = 16 ∧ (H = 16 ∨ H = 8) ∧ 0 ≤ X ∧ 0 ≤ Y ∧ X % 2 = 0 ∧ Y % 2 = 0 ∧ X ≤ w - W ∧ Y ≤ h - H := Iff.rfl
  by_cases c1 : X < 0
  · rw [if_pos c1, decide_eq_true (by rw [m]; omega)]
  by_cases c2 : Y < 0
  · rw [if_neg c1, if_pos c2, decide_eq_true (by rw [m]; omega)]
  rw [if_neg c1, if_neg c2, ht X c1, ht Y c2, w64id (x := w - W) (by omega) (by omega), w64id (x := h - H) (by omega) (by omega)]
  by_cases c3 : X % 2 = 0
  · by_cases c4 : Y % 2 = 0
    · by_cases c5 : X > w - W
      · rw [if_pos c3, if_pos c4, if_pos c5, decide_eq_true (by rw [m]; omega)]
      · rw [if_pos c3, if_pos c4, if_neg c5]; congr 1; rw [decide_eq_decide, m]; omega
    · rw [if_pos c3, if_neg c4, decide_eq_true (by rw [m]; omega)]
  · rw [if_neg c3, decide_eq_true (by rw [m]; omega)]
theorem predict_j0_true {k : Nat} (hk : 0 < k) (X Y W H w h : Int) (y u v : List Int) (vx vy : Int) : motion_Predict.j0 k X Y W H true w h y u v vx vy = some (0, 0, [], [], [], 1) := by
  obtain ⟨k, rfl⟩ : ∃ m, k = m + 1 := ⟨k - 1, by omega⟩
  simp only [motion_Predict.j0]
  rw [if_pos trivial]
theorem predict_j0 {k : Nat} (hk : 301 < k) {X Y W H w h : Int} {y u v : List Int} (vx vy : Int) (hf : formed w h y u v) (hp : PartOk w h X Y W H) (by1 : Bytes y) (bu : Bytes u) (bv : Bytes v) :
    motion_Predict.j0 k X Y W H false w h y u v vx vy = some (predictS w h y u v X Y W H vx vy) := by
  obtain ⟨k, rfl⟩ : ∃ m, k = m + 1 := ⟨k - 1, by omega⟩
  simp only [motion_Predict.j0]
  rw [if_neg (by simp), may_eq, Option.bind_some]
  unfold predictS
  rw [if_pos (⟨hf, hp⟩ : formed w h y u v ∧ PartOk w h X Y W H)]
  by_cases c : MayS vx vy
  · have hh := hf.1
    obtain ⟨rfl, hH, hX, hY, hX2, hY2, hXw, hYh⟩ := hp
    have v1 := half_in (x := vx) ⟨c.1, c.2.1⟩
    have v2 := half_in (x := vy) ⟨c.2.2.1, c.2.2.2⟩
    rw [if_pos (decide_eq_true c), if_pos c]
    obtain ⟨n, rfl⟩ : ∃ n : Nat, H = n := ⟨H.toNat, by omega⟩
    have h2 : Int.tdiv (n : Int) 2 = ((n / 2 : Nat) : Int) := by rw [Int.tdiv_eq_ediv_of_nonneg (by omega)]; omega
    have e16 : (16 : Int) = ((16 : Nat) : Int) := rfl
    have e8 : wrap64 (Int.tdiv (16 : Int) 2) = ((8 : Nat) : Int) := w64id (x := 8) (by omega) (by omega)
    rw [h2, w64id (x := ((n / 2 : Nat) : Int)) (by omega) (by omega), w64id (x := Int.tdiv vx 2) (by omega) (by omega), w64id (x := Int.tdiv vy 2) (by omega) (by omega), e8,
      Int.tdiv_eq_ediv_of_nonneg (show 0 ≤ w by omega), Int.tdiv_eq_ediv_of_nonneg (show 0 ≤ h by omega), Int.tdiv_eq_ediv_of_nonneg hX, Int.tdiv_eq_ediv_of_nonneg hY,
      w64id (x := w / 2) (by omega) (by omega), w64id (x := h / 2) (by omega) (by omega), w64id (x := X / 2) (by omega) (by omega), w64id (x := Y / 2) (by omega) (by omega), e16]
    rw [predicted_eq (by omega) (compOk_y hf by1) (by omega) (by omega) ⟨c.1, c.2.1⟩ ⟨c.2.2.1, c.2.2.2⟩ 16 n (by omega) (by omega), Option.bind_some,
      predicted_eq (by omega) (compOk_u hf bu) (by omega) (by omega) v1 v2 8 (n / 2) (by omega) (by omega), Option.bind_some,
      predicted_eq (by omega) (compOk_v hf bv) (by omega) (by omega) v1 v2 8 (n / 2) (by omega) (by omega), Option.bind_some]
    rw [show ((n : Int) / 2).toNat = n / 2 by omega, Int.toNat_natCast]
  · rw [if_neg (by simpa using c), if_neg c]
theorem predict_eq {k : Nat} (hk : 302 < k) {w h : Int} {y u v : List Int} (X Y W H vx vy : Int) (by1 : Bytes y) (bu : Bytes u) (bv : Bytes v) :
    motion_Predict.f k w h y u v X Y W H vx vy = some (predictS w h y u v X Y W H vx vy) := by
  unfold motion_Predict.f
  rw [formed_eq, Option.bind_some]
  by_cases f : formed w h y u v
  · rw [if_pos (decide_eq_true f)]
    have hh := f.1
    by_cases c1 : W = 16
    · by_cases c2 : H = 16
      · rw [if_pos c1, if_pos c2, outside_eq ⟨hh.1, hh.2.1⟩ ⟨hh.2.2.2.1, hh.2.2.2.2.1⟩ y u v X Y W H c1 (.inl c2), Option.bind_some]
        by_cases p : PartOk w h X Y W H
        · rw [decide_eq_false (fun z => z p)]; exact predict_j0 (by omega) vx vy f p by1 bu bv
        · rw [decide_eq_true p, predict_j0_true (by omega)]; unfold predictS; rw [if_neg (fun z => p z.2)]
      · by_cases c3 : H = 8
        · rw [if_pos c1, if_neg c2, if_pos c3, outside_eq ⟨hh.1, hh.2.1⟩ ⟨hh.2.2.2.1, hh.2.2.2.2.1⟩ y u v X Y W H c1 (.inr c3), Option.bind_some]
          by_cases p : PartOk w h X Y W H
          · rw [decide_eq_false (fun z => z p)]; exact predict_j0 (by omega) vx vy f p by1 bu bv
          · rw [decide_eq_true p, predict_j0_true (by omega)]; unfold predictS; rw [if_neg (fun z => p z.2)]
        · rw [if_pos c1, if_neg c2, if_neg c3, predict_j0_true (by omega)]; unfold predictS; rw [if_neg (fun z => z.2.2.1.elim c2 c3)]
    · rw [if_neg c1, predict_j0_true (by omega)]; unfold predictS; rw [if_neg (fun z => c1 z.2.1)]
  · rw [if_neg (by simpa using f), predict_j0_true (by omega)]; unfold predictS; rw [if_neg (fun z => f z.1)]

theorem rd_append_l {a b : List Int} {i : Nat} (h : i < a.length) : rd (a ++ b) (i : Int) = rd a (i : Int) := by
  unfold rd
  rw [List.getD_eq_getElem?_getD, List.getD_eq_getElem?_getD, Int.toNat_natCast, List.getElem?_append_left h]
theorem rd_append_r {a b : List Int} {i : Nat} : rd (a ++ b) ((a.length + i : Nat) : Int) = rd b (i : Int) := by
  unfold rd
  rw [List.getD_eq_getElem?_getD, List.getD_eq_getElem?_getD, Int.toNat_natCast, Int.toNat_natCast, List.getElem?_append_right (by omega), show a.length + i - a.length = i by omega]
theorem rd_row {g : Int → Int} : ∀ (n : Nat) (i0 : Int) (i : Nat), i < n → rd (rowFrom g i0 n) (i : Int) = g (i0 + i)
  | 0, _, _, h => by omega
  | n + 1, i0, 0, _ => by rw [rowFrom, rd_eq (by omega) (by rw [List.length_cons]; omega)]; simp
  | n + 1, i0, i + 1, h => by
    have e := rd_append_r (a := [g i0]) (b := rowFrom g (i0 + 1) n) (i := i)
    rw [rd_row n (i0 + 1) i (by omega)] at e
    rw [rowFrom, show ((i + 1 : Nat) : Int) = (([g i0].length + i : Nat) : Int) by rw [List.length_singleton]; omega]
    exact e.trans (congrArg g (by have h1 : [g i0].length = 1 := rfl; omega))
theorem rd_rows {G : Int → List Int} {w : Nat} (hG : ∀ j, (G j).length = w) : ∀ (n : Nat) (j0 : Int) (j i : Nat), j < n → i < w → rd (rowsFrom G j0 n) ((j * w + i : Nat) : Int) = rd (G (j0 + j)) (i : Int)
  | 0, _, _, _, h, _ => by omega
  | n + 1, j0, 0, i, _, hi => by
    rw [rowsFrom, show 0 * w + i = i by omega, rd_append_l (by rw [hG]; exact hi)]
    simp
  | n + 1, j0, j + 1, i, h, hi => by
    have e := rd_append_r (a := G j0) (b := rowsFrom G (j0 + 1) n) (i := j * w + i)
    rw [rd_rows hG n (j0 + 1) j i (by omega) hi, hG] at e
    rw [rowsFrom, show (j + 1) * w + i = w + (j * w + i) by rw [Nat.succ_mul]; omega, e]
    congr 2
    omega
/-- The mirrored place. -/
def mirS (w i : Int) : Int := i / w * w + w - 1 - i % w
theorem div_at {w r c : Int} (h0 : 0 ≤ c) (h1 : c < w) : (r * w + c) / w = r ∧ (r * w + c) % w = c := by
  have := (Int.ediv_emod_unique (a := r * w + c) (b := w) (r := c) (q := r) (by omega)).2 ⟨by rw [Int.mul_comm]; omega, h0, h1⟩
  exact this
theorem mir_at {w r c : Int} (h0 : 0 ≤ c) (h1 : c < w) : mirS w (r * w + c) = r * w + (w - 1 - c) := by
  unfold mirS
  rw [(div_at h0 h1).1, (div_at h0 h1).2]
  omega
theorem split_at {w i : Int} (hw : 0 < w) : i = i / w * w + i % w ∧ 0 ≤ i % w ∧ i % w < w := by
  have h1 := Int.mul_ediv_add_emod i w
  rw [Int.mul_comm] at h1
  exact ⟨h1.symm, Int.emod_nonneg _ (by omega), Int.emod_lt_of_pos _ hw⟩
theorem mir_mir {w i : Int} (hw : 0 < w) : mirS w (mirS w i) = i := by
  obtain ⟨e, h0, h1⟩ := split_at (i := i) hw
  rw [show mirS w i = i / w * w + (w - 1 - i % w) by unfold mirS; omega, mir_at (by omega) (by omega)]
  omega
theorem mir_bd {w h i : Int} (hw : 0 < w) (h0 : 0 ≤ i) (h1 : i < w * h) : 0 ≤ mirS w i ∧ mirS w i < w * h := by
  obtain ⟨e, c0, c1⟩ := split_at (i := i) hw
  have hr : 0 ≤ i / w := Int.ediv_nonneg h0 (by omega)
  have hr2 : i / w < h := Int.ediv_lt_of_lt_mul hw (by rw [Int.mul_comm]; exact h1)
  have m1 : 0 ≤ i / w * w := Int.mul_nonneg hr (by omega)
  have m2 : i / w * w ≤ (h - 1) * w := Int.mul_le_mul_of_nonneg_right (by omega) (by omega)
  rw [Int.sub_mul, Int.one_mul, Int.mul_comm h w] at m2
  unfold mirS
  omega
theorem mir_le {w i : Int} (hw : 0 < w) (h0 : 0 ≤ i) : 0 ≤ i / w * w ∧ i / w * w ≤ i ∧ 0 ≤ i % w ∧ i % w < w := by
  obtain ⟨e, c0, c1⟩ := split_at (i := i) hw
  have m1 : 0 ≤ i / w * w := Int.mul_nonneg (Int.ediv_nonneg h0 (by omega)) (by omega)
  omega
/-- The rows are mirrored. -/
def Mirrored (m l : List Int) (w : Int) : Prop := m.length = l.length ∧ ∀ i : Int, 0 ≤ i → i < l.length → rd m (mirS w i) = rd l i
theorem mir_samp {m l : List Int} {w h : Int} (hm : Mirrored m l w) (hc : CompOk l w h) (x y : Int) : sampS m w h (w - 1 - x) y = sampS l w h x y := by
  obtain ⟨h1, h2, h3, h4, h5, _⟩ := hc
  obtain ⟨p1, p2, _⟩ := place (x := x) (y := y) h1 h3
  obtain ⟨a1, a2⟩ := clampS_bd (x := x) h1
  have e := hm.2 _ p1 (by omega)
  rw [mir_at a1 (by omega)] at e
  unfold sampS
  rw [show clampS (w - 1 - x) w = w - 1 - clampS x w by unfold clampS; (repeat' split) <;> omega, e]
theorem mir_half {m l : List Int} {w h : Int} (hm : Mirrored m l w) (hc : CompOk l w h) (p q : Int) : halfS m w h (2 * (w - 1) - p) q = halfS l w h p q := by
  have s := mir_samp hm hc
  unfold halfS
  by_cases c : p % 2 = 0
  · rw [if_pos (by omega), if_pos c, show (2 * (w - 1) - p) / 2 = w - 1 - p / 2 by omega, s, s]
  · rw [if_neg (by omega), if_neg c, show (2 * (w - 1) - p) / 2 = w - 1 - (p / 2 + 1) by omega, show w - 1 - (p / 2 + 1) + 1 = w - 1 - p / 2 by omega, s, s, s, s]
    split <;> omega
theorem pred_rd {l : List Int} {cw ch X Y vx vy : Int} {w n j c : Nat} (hj : j < n) (hc : c < w) : rd (predS l cw ch X Y w n vx vy) ((j * w + c : Nat) : Int) = halfS l cw ch (2 * (X + c) + vx) (2 * (Y + j) + vy) := by
  unfold predS
  rw [rd_rows (fun _ => rowFrom_len _ _ _) n 0 j c hj hc, rd_row w 0 c hc]
  simp
theorem mir_pred {m l : List Int} {w h X Y vx vy : Int} {n : Nat} (hm : Mirrored m l w) (hc : CompOk l w h) {i : Int} (h0 : 0 ≤ i) (h1 : i < ((n * 16 : Nat) : Int)) :
    rd (predS m w h (w - 16 - X) Y 16 n (-vx) vy) (mirS 16 i) = rd (predS l w h X Y 16 n vx vy) i := by
  obtain ⟨e, c0, c1⟩ := split_at (w := 16) (i := i) (by omega)
  obtain ⟨j, hj⟩ : ∃ j : Nat, i / 16 = j := ⟨(i / 16).toNat, by omega⟩
  obtain ⟨c, hc'⟩ : ∃ c : Nat, i % 16 = c := ⟨(i % 16).toNat, by omega⟩
  have hi : i = ((j * 16 + c : Nat) : Int) := by omega
  have hmi : mirS 16 i = ((j * 16 + (15 - c) : Nat) : Int) := by unfold mirS; omega
  rw [hmi, hi, pred_rd (by omega) (by omega), pred_rd (by omega) (by omega), ← mir_half hm hc]
  congr 1
  omega
theorem set_mir {m l : List Int} {w h : Int} (hw : 0 < w) (hl : (l.length : Int) = w * h) (hml : m.length = l.length) {i : Nat} (hi : i < l.length) (hm : ∀ j : Int, 0 ≤ j → j < i → rd m (mirS w j) = rd l j) :
    ∀ j : Int, 0 ≤ j → j < (i + 1 : Nat) → rd (m.set (mirS w i).toNat (rd l i)) (mirS w j) = rd l j := by
  intro j h0 h1
  have bi := mir_bd (h := h) (i := i) hw (by omega) (by omega)
  have bj := mir_bd (h := h) (i := j) hw h0 (by omega)
  by_cases c : j = i
  · subst c
    rw [rd_eq bi.1 (by simp; omega)]
    simp
  · have ne : (mirS w i).toNat ≠ (mirS w j).toNat := fun z => c (by
      have e : mirS w i = mirS w j := by omega
      have e2 := congrArg (mirS w) e
      rw [mir_mir hw, mir_mir hw] at e2
      exact e2.symm)
    rw [← hm j h0 (by omega), rd_eq bj.1 (by simp; omega), rd_eq bj.1 (by omega), List.getElem_set_ne ne]
theorem set_bytes {m : List Int} (hm : Bytes m) {x : Int} (hx : 0 ≤ x ∧ x < 256) (i : Nat) : Bytes (m.set i x) := fun z hz => by
  rcases List.mem_or_eq_of_mem_set hz with h | h
  · exact hm z h
  · subst h; exact hx
theorem mirror_l1 {X Y vx vy : Int} {W H gw gh fw fh : Int} {f fu fv g gu gv : List Int} (hn : f.length ≤ 5000) (hl : (f.length : Int) = W * H) (hgl : g.length = f.length) (hW : W = 16) (hfg : ∀ i : Int, 0 ≤ i → i < f.length → rd g (mirS 16 i) = rd f i) (d : Nat) : ∀ (k i : Nat), f.length - i = d → i ≤ f.length → d + 10011 < k →
    cutroomlaw08_MotionMirror.l1 k (i : Int) X Y W H vx vy fw fh f fu fv gw gh g gu gv = some true := by
  induction d with
  | zero =>
    intro k i hd hi hk
    obtain ⟨k, rfl⟩ : ∃ m, k = m + 1 := ⟨k - 1, by omega⟩
    simp only [cutroomlaw08_MotionMirror.l1]
    rw [if_neg (by omega), awake_eq (by omega)]
    rfl
  | succ d ih =>
    intro k i hd hi hk
    obtain ⟨k, rfl⟩ : ∃ m, k = m + 1 := ⟨k - 1, by omega⟩
    subst hW
    have hb := mir_bd (w := 16) (h := H) (i := i) (by omega) (by omega) (by omega)
    have hi2 := mir_le (w := 16) (i := i) (by omega) (by omega)
    have hm : mirS 16 i = i / 16 * 16 + 16 - 1 - i % 16 := rfl
    have e := hfg i (by omega) (by omega)
    rw [hm] at hb e
    simp only [cutroomlaw08_MotionMirror.l1]
    rw [if_pos (by omega), if_pos (by omega), if_neg (by omega), Int.tdiv_eq_ediv_of_nonneg (by omega), Int.tmod_eq_emod_of_nonneg (by omega), w64id (x := (i : Int) / 16) (by omega) (by omega), w64id (x := (i : Int) / 16 * 16) (by omega) (by omega), w64id (x := (i : Int) / 16 * 16 + 16) (by omega) (by omega),
      w64id (x := (i : Int) / 16 * 16 + 16 - 1) (by omega) (by omega), w64id (x := (i : Int) / 16 * 16 + 16 - 1 - i % 16) (by omega) (by omega), if_pos (by omega), if_pos (by omega), if_pos e.symm, w64id (x := (i : Int) + 1) (by omega) (by omega)]
    exact ih k (i + 1) (by omega) (by omega) (by omega)
theorem mirror_l0 {w h X Y W H vx vy : Int} {y u v : List Int} (hf : formed w h y u v) (hp : PartOk w h X Y W H) (hv : MayS vx vy) (by1 : Bytes y) (bu : Bytes u) (bv : Bytes v) (fw fh : Int) (fu fv : List Int) (d : Nat) : ∀ (k i : Nat) (m : List Int), y.length - i = d → i ≤ y.length → d + 20020 < k →
    m.length = y.length → Bytes m → (∀ j : Int, 0 ≤ j → j < i → rd m (mirS w j) = rd y j) →
    cutroomlaw08_MotionMirror.l0 k (i : Int) w h y u v X Y W H vx vy fw fh (predS y w h X Y 16 H.toNat vx vy) fu fv w h m u v = some true := by
  have hl := formed_len hf
  have hh := hf.1
  have hs := hf.2
  induction d with
  | zero =>
    intro k i m hd hi hk hm bm hmir
    obtain ⟨k, rfl⟩ : ∃ q, k = q + 1 := ⟨k - 1, by omega⟩
    simp only [cutroomlaw08_MotionMirror.l0]
    obtain ⟨rfl, hH, hX, hY, hX2, hY2, hXw, hYh⟩ := id hp
    have mf : formed w h m u v := ⟨hh, by omega, hs.2.1, hs.2.2⟩
    have M : Mirrored m y w := ⟨hm, fun j h0 h1 => hmir j h0 (by omega)⟩
    have hlen1 := predS_len y w h X Y 16 H.toNat vx vy
    have hlen2 := predS_len m w h (w - 16 - X) Y 16 H.toNat (-vx) vy
    obtain ⟨v1, v2, v3, v4⟩ := id hv
    rw [if_neg (by omega), w64id (x := w - 16) (by omega) (by omega), w64id (x := w - 16 - X) (by omega) (by omega), w64id (x := -vx) (by omega) (by omega), predict_eq (by omega) _ _ _ _ _ _ bm bu bv,
      predictS_yes mf (⟨rfl, hH, by omega, hY, by omega, hY2, by omega, hYh⟩ : PartOk w h (w - 16 - X) Y 16 H) (⟨by omega, by omega, v3, v4⟩ : MayS (-vx) vy)]
    simp only [Option.bind_some, if_true]
    rw [if_pos (by omega), w64id (x := 16 * H) (by omega) (by omega)]
    have c : (((predS y w h X Y 16 H.toNat vx vy).length : Int) != 16 * H) = false := bne_eq_false_iff_eq.2 (by omega)
    rw [c]
    obtain ⟨k, rfl⟩ : ∃ q, k = q + 1 := ⟨k - 1, by omega⟩
    simp only [cutroomlaw08_MotionMirror.j1]
    rw [if_neg (by simp)]
    exact mirror_l1 (by omega) (by omega) (by omega) rfl (fun j h0 h1 => mir_pred M (compOk_y hf by1) h0 (by omega)) _ k 0 rfl (by omega) (by omega)
  | succ d ih =>
    intro k i m hd hi hk hm bm hmir
    obtain ⟨k, rfl⟩ : ∃ q, k = q + 1 := ⟨k - 1, by omega⟩
    simp only [cutroomlaw08_MotionMirror.l0]
    have hb := mir_bd (w := w) (h := h) (i := i) (by omega) (by omega) (by omega)
    have hi2 := mir_le (w := w) (i := i) (by omega) (by omega)
    have hi3 : 0 ≤ (i : Int) / w := Int.ediv_nonneg (by omega) (by omega)
    have hi4 : (i : Int) / w ≤ i := Int.ediv_le_self _ (by omega)
    have hM : mirS w i = i / w * w + w - 1 - i % w := rfl
    have st := set_mir (by omega) hs.1 hm (by omega : i < y.length) hmir
    rw [hM] at hb st
    have bx := by1.rd (i := (i : Int)) (by omega) (by omega)
    rw [if_pos (by omega), if_neg (by omega), if_pos (by omega), Int.tdiv_eq_ediv_of_nonneg (by omega), Int.tmod_eq_emod_of_nonneg (by omega), w64id (x := (i : Int) / w) (by omega) (by omega), w64id (x := (i : Int) / w * w) (by omega) (by omega), w64id (x := (i : Int) / w * w + w) (by omega) (by omega),
      w64id (x := (i : Int) / w * w + w - 1) (by omega) (by omega), w64id (x := (i : Int) / w * w + w - 1 - i % w) (by omega) (by omega), if_pos (by omega), if_pos (by omega), w64id (x := (i : Int) + 1) (by omega) (by omega)]
    exact ih k (i + 1) _ (by omega) (by omega) (by omega) (by rw [List.length_set]; exact hm) (set_bytes bm bx _) st
theorem copy_eq (w h : Int) {y u v : List Int} (h1 : y.length ≤ 5000) (h2 : u.length ≤ 5000) (h3 : v.length ≤ 5000) : cutroomref07_Copy.f w h y u v = some (w, h, y, u, v) := by
  unfold cutroomref07_Copy.f
  simp only [Option.bind_some, List.nil_append, List.length_nil, Nat.zero_add]
  rw [if_pos (by omega), if_pos (by omega), if_pos (by omega)]
theorem MotionMirror (w h : Int) (y u v : List Int) (X Y W H vx vy : Int) (_ : (Lit.int .i64 w).wf = true) (_ : (Lit.int .i64 h).wf = true) (hy : (∀ x ∈ y, (Lit.int .u8 x).wf = true) ∧ y.length * 1 ≤ reachBytes)
    (hu : (∀ x ∈ u, (Lit.int .u8 x).wf = true) ∧ u.length * 1 ≤ reachBytes) (hv : (∀ x ∈ v, (Lit.int .u8 x).wf = true) ∧ v.length * 1 ≤ reachBytes) (_ : (Lit.int .i64 X).wf = true) (_ : (Lit.int .i64 Y).wf = true) (_ : (Lit.int .i64 W).wf = true) (_ : (Lit.int .i64 H).wf = true)
    (_ : (Lit.int .i64 vx).wf = true) (_ : (Lit.int .i64 vy).wf = true) : ∃ k, cutroomlaw08_MotionMirror.f k w h y u v X Y W H vx vy = some true := by
  obtain ⟨k, hk⟩ : ∃ k : Nat, 30011 < k := ⟨_, Nat.lt_succ_self _⟩
  refine ⟨k, ?_⟩
  have by1 := bytes_of hy.1; have bu := bytes_of hu.1; have bv := bytes_of hv.1
  unfold cutroomlaw08_MotionMirror.f
  rw [light_some]
  simp only [Option.bind_some]
  split
  · rw [predict_eq (by omega) X Y W H vx vy by1 bu bv, Option.bind_some]
    unfold predictS
    by_cases c : formed w h y u v ∧ PartOk w h X Y W H
    · rw [if_pos c]
      by_cases c2 : MayS vx vy
      · rw [if_pos c2]
        have hl := formed_len c.1
        simp only [if_true]
        rw [copy_eq w h (by omega) (by omega) (by omega), Option.bind_some]
        exact mirror_l0 c.1 c.2 c2 by1 bu bv _ _ _ _ _ k 0 y rfl (by omega) (by omega) rfl by1 (fun j h0 h1 => by omega)
      · rw [if_neg c2, awake_eq (by omega)]
        simp
    · rw [if_neg c, awake_eq (by omega)]
      simp
  · rfl


end Go.Proofs.Ytnihjbcdlgfklaa.Pure
