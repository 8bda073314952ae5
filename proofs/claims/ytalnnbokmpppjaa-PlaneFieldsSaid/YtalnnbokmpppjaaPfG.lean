/- The fields of a frame make it up again. -/
import Derived.Test.YtalnnbokmpppjaaPfF
namespace Go.Proofs.YtalnnbokmpppjaaAb
open Go Go.RowKit
set_option linter.unusedVariables false
set_option linter.unusedSimpArgs false
set_option maxRecDepth 100000
theorem wf64 {n : Int} (h : (Lit.int .i64 n).wf = true) : -9223372036854775808 ≤ n ∧ n < 9223372036854775808 := by
  have h := (Bool.and_eq_true _ _).mp h
  have h1 : (-9223372036854775808 : Int) ≤ n := of_decide_eq_true h.1
  have h2 : n ≤ 9223372036854775807 := of_decide_eq_true h.2
  omega
theorem wf8 {n : Int} (h : (Lit.int .u8 n).wf = true) : 0 ≤ n ∧ n < 256 := by
  have h := (Bool.and_eq_true _ _).mp h
  have h1 : (0 : Int) ≤ n := of_decide_eq_true h.1
  have h2 : n ≤ 255 := of_decide_eq_true h.2
  omega
theorem TT_frame {c : List FV} (h : TT Try.prog 24 c) : ∃ f : Fr, c = [.int .i64 f.w, .int .i64 f.h, bT f.y, bT f.u, bT f.v] ∧ f.ok := by
  obtain ⟨hl, hf⟩ := TT_struct h (by rfl)
  have h0 := hf 0 _ rfl
  have h1 := hf 1 _ rfl
  have h2 := hf 2 _ rfl
  have h3 := hf 3 _ rfl
  have h4 := hf 4 _ rfl
  have hl5 : c.length = 5 := hl
  match c, hl5 with
  | [a, b, y, u, v], _ =>
    obtain ⟨w, e0, w0⟩ := TT_int (k := .i64) (by exact h0) rfl
    obtain ⟨hh, e1, w1⟩ := TT_int (k := .i64) (by exact h1) rfl
    obtain ⟨ly, e2, w2, _⟩ := TT_ints (k := .u8) (by exact h2) rfl rfl rfl
    obtain ⟨lu, e3, w3, _⟩ := TT_ints (k := .u8) (by exact h3) rfl rfl rfl
    obtain ⟨lv, e4, w4, _⟩ := TT_ints (k := .u8) (by exact h4) rfl rfl rfl
    have e0 : [a] = [.int .i64 w] := e0
    have e1 : [b] = [.int .i64 hh] := e1
    have e2 : [y] = [bT ly] := e2
    have e3 : [u] = [bT lu] := e3
    have e4 : [v] = [bT lv] := e4
    cases e0; cases e1; cases e2; cases e3; cases e4
    exact ⟨⟨w, hh, ly, lu, lv⟩, rfl, wf64 w0, wf64 w1, fun x hx => wf8 (w2 x hx), fun x hx => wf8 (w3 x hx), fun x hx => wf8 (w4 x hx)⟩
theorem catL_mem {b : Nat → Nat} {w : Nat} {S : List Int} {x : Int} : ∀ {n : Nat}, x ∈ catL b w S n → x ∈ S
  | 0, h => by cases h
  | n + 1, h => by
    rcases List.mem_append.1 h with h | h
    · exact catL_mem h
    · exact List.mem_of_mem_drop (List.mem_of_mem_take h)
theorem field_ok {f : Fr} {p : Int} (h : f.ok) (h1 : f.formed) : (f.field p).ok := by
  obtain ⟨a, b, y, u, v⟩ := h
  have := h1.1
  refine ⟨a, ?_, fun x hx => y x (catL_mem hx), fun x hx => u x (catL_mem hx), fun x hx => v x (catL_mem hx)⟩
  simp only [Fr.field]; omega
theorem intArea {w n : Int} {l : Nat} (h : l = n.toNat * w.toNat) (hn : 0 ≤ n) (hw : 0 ≤ w) : (l : Int) = w * n := by
  rw [h, Int.natCast_mul, Int.toNat_of_nonneg hn, Int.toNat_of_nonneg hw, Int.mul_comm]
theorem field_formed {f : Fr} {p : Int} (h1 : f.formed) (h2 : f.h % 4 = 0) (hp : 0 ≤ p ∧ p ≤ 1) : (f.field p).formed := by
  have hb := h1.1
  have hr := h1.rows h2
  have hA := area hb.1 hb.2.1 hb.2.2.1 (show 2 ≤ f.h / 2 by omega) (by omega) (by omega)
  have l1 := catL_length (oddL_in (p := p.toNat) (by omega) hr.1)
  have l2 := catL_length (oddL_in (p := p.toNat) (by omega) hr.2.1)
  have l3 := catL_length (oddL_in (p := p.toNat) (by omega) hr.2.2)
  have e1 := intArea (w := f.w) (n := f.h / 2) l1 (by omega) (by omega)
  have e2 := intArea l2 (by omega) (by omega)
  have e3 := intArea l3 (by omega) (by omega)
  rw [show f.h / 4 = f.h / 2 / 2 by omega, ← hA.2.2.2.2.2] at e2 e3
  refine ⟨⟨hb.1, hb.2.1, hb.2.2.1, ?_, ?_, ?_⟩, e1, ?_, ?_⟩
  · simp only [Fr.field]; omega
  · simp only [Fr.field]; omega
  · simp only [Fr.field]; omega
  · simp only [Fr.field]; rw [show f.h / 4 = f.h / 2 / 2 by omega]; exact e2
  · simp only [Fr.field]; rw [show f.h / 4 = f.h / 2 / 2 by omega]; exact e3
theorem weave_field {f : Fr} (h1 : f.formed) (h2 : f.h % 4 = 0) : (f.field 0).weave (f.field 1) = f := by
  have hb := h1.1
  have hr := h1.rows h2
  have ha := h1.area
  have ez := zeros_length
  have z1 : (zeros (f.w * (2 * (f.h / 2)))).length = (f.h / 2).toNat * 2 * f.w.toNat := by
    rw [show 2 * (f.h / 2) = f.h by omega, ← hr.1]
    rw [ez]; have := h1.2.1; omega
  have z2 : (zeros (f.w * (2 * (f.h / 2)) / 4)).length = (f.h / 4).toNat * 2 * (f.w / 2).toNat := by
    rw [show 2 * (f.h / 2) = f.h by omega, ← hr.2.1]
    rw [ez]; have := h1.2.2.1; omega
  have e1 := weave_fields hr.1 z1
  have e2 := weave_fields hr.2.1 z2
  have e3 := weave_fields hr.2.2 z2
  cases f
  rename_i w h y u v
  simp only [Fr.field, Fr.weave, Fr.mk.injEq] at *
  rw [show h / 4 = h / 2 / 2 by omega] at *
  exact ⟨trivial, by omega, e1, e2, e3⟩
theorem fEqualNo : FC ir sg 21 [.agg [.int .i64 0, .int .i64 0, .lst 0 [], .lst 0 [], .lst 0 []], .agg [.int .i64 0, .int .i64 0, .lst 0 [], .lst 0 [], .lst 0 []]] = some (.bool true, []) := by
  have hz : Fr.ok ⟨0, 0, [], [], []⟩ := ⟨by decide, by decide, (fun x h => by cases h), (fun x h => by cases h), (fun x h => by cases h)⟩
  exact (fEqual hz hz).trans (by rw [decide_eq_true rfl])
theorem fEqualId {f : Fr} (h : f.ok) : FC ir sg 21 [f.t, f.t] = some (.bool true, []) := (fEqual h h).trans (by rw [decide_eq_true rfl])
end Go.Proofs.YtalnnbokmpppjaaAb
