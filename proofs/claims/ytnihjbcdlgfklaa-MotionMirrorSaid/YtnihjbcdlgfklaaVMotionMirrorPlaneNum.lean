/- Plain facts on samples and rows of samples, for the statements about frames: no program here. -/
import Derived.RowKit
import Derived.IntWalk
import Derived.Test.YtnihjbcdlgfklaaVMotionMirrorWords
import Derived.Test.YtnihjbcdlgfklaaVMotionMirrorLast
import Derived.Test.YtnihjbcdlgfklaaVMotionMirrorMore
import Derived.Laws.BytesArg
import Derived.Lib.Bytes
namespace Go.Proofs.Ytnihjbcdlgfklaa.PlaneNum
open Go.RowKit Go.Proofs.YtnihjbcdlgfklaaW.PrintWords Go.Proofs.YtnihjbcdlgfklaaW.PrintLast Go.Proofs.YtnihjbcdlgfklaaW.PrintMore

theorem wf8 {x : Int} (h : (Lit.int .u8 x).wf = true) : 0 ≤ x ∧ x < 256 := by
  simp [Lit.wf, IntKind.min, IntKind.max, IntKind.signed, IntKind.bits] at h
  omega
theorem wf64 {x : Int} (h : (Lit.int .i64 x).wf = true) : -9223372036854775808 ≤ x ∧ x < 9223372036854775808 := by
  simp [Lit.wf, IntKind.min, IntKind.max, IntKind.signed, IntKind.bits] at h
  omega
theorem w64id {x : Int} (h0 : -9223372036854775808 ≤ x) (h1 : x < 9223372036854775808) : wrap64 x = x := by unfold wrap64; omega
/-- Samples of 8 bits. -/
def Bytes (l : List Int) : Prop := ∀ x ∈ l, 0 ≤ x ∧ x < 256
theorem bytes_of {l : List Int} (h : ∀ x ∈ l, (Lit.int .u8 x).wf = true) : Bytes l := fun x hx => wf8 (h x hx)
theorem rd_eq {l : List Int} {i : Int} (h0 : 0 ≤ i) (h1 : i < l.length) : rd l i = l[i.toNat]'(by omega) := by
  unfold rd
  rw [List.getD_eq_getElem?_getD, List.getElem?_eq_getElem (by omega)]
  rfl
theorem Bytes.rd {l : List Int} (h : Bytes l) {i : Int} (h0 : 0 ≤ i) (h1 : i < l.length) : 0 ≤ rd l i ∧ rd l i < 256 := by
  rw [rd_eq h0 h1]
  exact h _ (List.getElem_mem _)
theorem rd_drop {l : List Int} {i : Nat} (h : i < l.length) : l.drop i = rd l (i : Int) :: l.drop (i + 1) := by
  rw [rd_eq (by omega) (by omega)]
  exact List.drop_eq_getElem_cons h

/-- The greatest distance of the samples of two rows, and n at the least. -/
def apartL : List Int → List Int → Int → Int
  | a :: as, b :: bs, n => apartL as bs (mx (mx n (a - b)) (b - a))
  | _, _, n => n
/-- No two samples are further from each other than m. -/
def Near (m : Int) : List Int → List Int → Prop
  | a :: as, b :: bs => a - b ≤ m ∧ b - a ≤ m ∧ Near m as bs
  | _, _ => True
theorem apart_le (m : Int) : ∀ (a b : List Int) (n : Int), apartL a b n ≤ m ↔ n ≤ m ∧ Near m a b
  | [], _, n => by simp [apartL, Near]
  | _ :: _, [], n => by simp [apartL, Near]
  | a :: as, b :: bs, n => by
    rw [apartL, apart_le m as bs, Near]
    unfold mx
    constructor
    · rintro ⟨h1, h2⟩
      refine ⟨?_, ?_, ?_, h2⟩ <;> (split at h1 <;> split at h1 <;> omega)
    · rintro ⟨h1, h2, h3, h4⟩
      refine ⟨?_, h4⟩
      split <;> split <;> omega
theorem apart_ge (a b : List Int) (n : Int) : n ≤ apartL a b n := ((apart_le (apartL a b n) a b n).1 (Int.le_refl _)).1
theorem near_self (a b : List Int) (n : Int) : Near (apartL a b n) a b := ((apart_le (apartL a b n) a b n).1 (Int.le_refl _)).2
theorem near_symm {m : Int} : ∀ {a b : List Int}, Near m a b → Near m b a
  | [], [], _ => trivial
  | [], _ :: _, _ => trivial
  | _ :: _, [], _ => trivial
  | _ :: _, _ :: _, h => ⟨h.2.1, h.1, near_symm h.2.2⟩
theorem near_trans {m n : Int} : ∀ {a b c : List Int}, a.length = b.length → Near m a b → Near n b c → Near (m + n) a c
  | [], _, _, _, _, _ => by simp [Near]
  | _ :: _, [], _, hl, _, _ => by simp at hl
  | _ :: _, _ :: _, [], _, _, _ => by simp [Near]
  | a :: as, b :: bs, c :: cs, hl, h, k => ⟨by have := h.1; have := k.1; omega, by have := h.2.1; have := k.2.1; omega, near_trans (by simpa using hl) h.2.2 k.2.2⟩
theorem near_mono {m n : Int} (hmn : m ≤ n) : ∀ {a b : List Int}, Near m a b → Near n a b
  | [], _, _ => by simp [Near]
  | _ :: _, [], _ => by simp [Near]
  | _ :: _, _ :: _, h => ⟨by have := h.1; omega, by have := h.2.1; omega, near_mono hmn h.2.2⟩
theorem near_zero : ∀ {a b : List Int}, a.length = b.length → (Near 0 a b ↔ a = b)
  | [], [], _ => by simp [Near]
  | [], _ :: _, h => by simp at h
  | _ :: _, [], h => by simp at h
  | a :: as, b :: bs, h => by
    rw [Near, near_zero (by simpa using h), List.cons.injEq]
    exact ⟨fun ⟨h1, h2, h3⟩ => ⟨by omega, h3⟩, fun ⟨h1, h3⟩ => ⟨by omega, by omega, h3⟩⟩
theorem apart_symm (a b : List Int) : apartL a b 0 = apartL b a 0 := by
  have h1 : apartL a b 0 ≤ apartL b a 0 := (apart_le _ a b 0).2 ⟨apart_ge b a 0, near_symm (near_self b a 0)⟩
  have h2 : apartL b a 0 ≤ apartL a b 0 := (apart_le _ b a 0).2 ⟨apart_ge a b 0, near_symm (near_self a b 0)⟩
  omega
theorem apart_zero {a b : List Int} (h : a.length = b.length) : apartL a b 0 = 0 ↔ a = b := by
  rw [← near_zero h]
  have h1 := apart_ge a b 0
  have h2 := apart_le 0 a b 0
  constructor
  · intro e; exact (h2.1 (by omega)).2
  · intro e; have := h2.2 ⟨Int.le_refl _, e⟩; omega
theorem apart_trans {a b c : List Int} (h : a.length = b.length) : apartL a c 0 ≤ apartL a b 0 + apartL b c 0 :=
  (apart_le _ a c 0).2 ⟨by have := apart_ge a b 0; have := apart_ge b c 0; omega, near_trans h (near_self a b 0) (near_self b c 0)⟩
theorem apart_lt (m : Int) : ∀ (a b : List Int) (n : Int), Bytes a → Bytes b → 0 ≤ n → n < 256 → 0 ≤ apartL a b n ∧ apartL a b n < 256
  | [], _, n, _, _, h0, h1 => by simp [apartL]; omega
  | _ :: _, [], n, _, _, h0, h1 => by simp [apartL]; omega
  | a :: as, b :: bs, n, ha, hb, h0, h1 => by
    rw [apartL]
    have h2 := ha a (by simp); have h3 := hb b (by simp)
    refine apart_lt m as bs _ (fun x hx => ha x (by simp [hx])) (fun x hx => hb x (by simp [hx])) ?_ ?_ <;> (unfold mx; split <;> split <;> omega)

/-- A formed frame. -/
def formed (w h : Int) (y u v : List Int) : Prop :=
  (2 ≤ w ∧ w ≤ 64 ∧ w % 2 = 0 ∧ 2 ≤ h ∧ h ≤ 64 ∧ h % 2 = 0) ∧ (y.length : Int) = w * h ∧ (u.length : Int) = w / 2 * (h / 2) ∧ (v.length : Int) = w / 2 * (h / 2)
instance (w h : Int) (y u v : List Int) : Decidable (formed w h y u v) := by unfold formed; infer_instance
theorem area {w h : Int} (h1 : 2 ≤ w) (h2 : w ≤ 64) (h3 : w % 2 = 0) (h4 : 2 ≤ h) (h5 : h ≤ 64) (h6 : h % 2 = 0) :
    0 ≤ w * h ∧ w * h ≤ 4096 ∧ 0 ≤ w / 2 * (h / 2) ∧ w / 2 * (h / 2) ≤ 1024 ∧ w * h = 4 * (w / 2 * (h / 2)) ∧ w * h / 4 = w / 2 * (h / 2) := by
  have e1 : w = 2 * (w / 2) := by omega
  have e2 : h = 2 * (h / 2) := by omega
  have e3 : w * h = 4 * (w / 2 * (h / 2)) := by
    rw [e1, e2]
    have a1 : 2 * (w / 2) / 2 = w / 2 := by omega
    have a2 : 2 * (h / 2) / 2 = h / 2 := by omega
    rw [a1, a2]
    generalize w / 2 = a; generalize h / 2 = b
    rw [Int.mul_assoc, Int.mul_left_comm a 2 b]
    omega
  have h7 : 0 ≤ w / 2 * (h / 2) := Int.mul_nonneg (by omega) (by omega)
  have h8 : w / 2 * (h / 2) ≤ 32 * 32 := Int.mul_le_mul (by omega) (by omega) (by omega) (by omega)
  omega
theorem area' {w h : Int} {y u v : List Int} (hf : formed w h y u v) : 0 ≤ w * h ∧ w * h ≤ 4096 ∧ 0 ≤ w / 2 * (h / 2) ∧ w / 2 * (h / 2) ≤ 1024 ∧ w * h = 4 * (w / 2 * (h / 2)) ∧ w * h / 4 = w / 2 * (h / 2) := by
  obtain ⟨⟨h1, h2, h3, h4, h5, h6⟩, _⟩ := hf
  exact area h1 h2 h3 h4 h5 h6
/-- How far two frames are from each other. -/
def dist (w h : Int) (y u v : List Int) (w' h' : Int) (y' u' v' : List Int) : Int :=
  if formed w h y u v ∧ formed w' h' y' u' v' ∧ w = w' ∧ h = h' then mx (mx (apartL y y' 0) (apartL u u' 0)) (apartL v v' 0) else -1
theorem same_bytes {a b : List Int} (ha : Bytes a) (hb : Bytes b) : ((strOfNums a).toList == (strOfNums b).toList) = decide (a = b) := by
  rw [Bool.eq_iff_iff, beq_iff_eq, decide_eq_true_iff]
  constructor
  · intro h
    have h2 : a.map (fun n => UInt8.ofNat n.toNat) = b.map (fun n => UInt8.ofNat n.toNat) := by
      rw [Lib.strOfNums_toList, Lib.strOfNums_toList] at h
      exact h
    have inj : ∀ (a b : List Int), Bytes a → Bytes b → a.map (fun n => UInt8.ofNat n.toNat) = b.map (fun n => UInt8.ofNat n.toNat) → a = b := by
      intro a
      induction a with
      | nil => intro b _ _ h; cases b with | nil => rfl | cons => simp at h
      | cons x xs ih =>
        intro b ha hb h
        cases b with
        | nil => simp at h
        | cons y ys =>
          simp only [List.map_cons, List.cons.injEq] at h
          have hx := ha x (by simp); have hy := hb y (by simp)
          have e1 : x = y := by
            have := congrArg UInt8.toNat h.1
            simp only [UInt8.toNat_ofNat'] at this
            omega
          rw [e1, ih ys (fun z hz => ha z (by simp [hz])) (fun z hz => hb z (by simp [hz])) h.2]
    exact inj a b ha hb h2
  · rintro rfl; rfl
end Go.Proofs.Ytnihjbcdlgfklaa.PlaneNum
