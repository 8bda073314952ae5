/- How the abstract machine's values and blocks lie in a world. -/
import Derived.Test.YtalnnbokmpppjaaAbOrder
namespace Go.Proofs.YtalnnbokmpppjaaAb
open Go Go.RowKit
set_option linter.unusedVariables false
set_option linter.unusedSimpArgs false

/-- where a block lies: from cell 'off' of block 'blk' on; 'tot' cells are there -/
structure Loc where
  blk : Nat
  off : Nat
  tot : Nat
  esz : Nat
abbrev Rho := Nm → Option Loc
inductive VR (ρ : Rho) : V → Value → Prop where
  | int (k : IntKind) (n : Int) : VR ρ (.int k n) (.int k n)
  | bool (b : Bool) : VR ρ (.bool b) (.bool b)
  | str (s : List UInt8) : VR ρ (.str s) (.string ⟨s.toArray⟩)
  | nilp : VR ρ .nilp (.pointer none)
  | ptr {n : Nm} {l : Loc} (o : Nat) (h : ρ n = some l) : VR ρ (.ptr n o) (.pointer (some ⟨l.blk, l.off + o, none⟩))
  | nils : VR ρ .nils (.slice none 0 0)
  | slg {n : Nm} {l : Loc} (o len cap cap' : Nat) (opn : Bool) (ad : Option Addr) (h : ρ n = some l) (hlc : len ≤ cap) (hc : cap ≤ cap') (he : opn = false → cap' = cap) (ho : opn = true → o + cap' * l.esz ≤ l.tot) (had : cap' ≠ 0 → ad = some ⟨l.blk, l.off + o, none⟩) :
      VR ρ (.sl n o len cap opn) (.slice ad len cap')
  | agg {l : List V} {a : Array Value} (hl : l.length = a.size) (hs : ∀ v ∈ l, v.scalar = true) (h : ∀ (i : Nat) v v', l[i]? = some v → a.toList[i]? = some v' → VR ρ v v') : VR ρ (.agg l) (.agg a)
  | tup {l : List V} {a : Array Value} (hl : l.length = a.size) (h : ∀ (i : Nat) v v', l[i]? = some v → a.toList[i]? = some v' → VR ρ v v') : VR ρ (.tup l) (.tuple a)
  | clo (f : Nat) {fs cs : List V} {a b : Array Value} (hl : fs.length = a.size) (h : ∀ (i : Nat) v v', fs[i]? = some v → a.toList[i]? = some v' → VR ρ v v')
      (kl : cs.length = b.size) (k : ∀ (i : Nat) v v', cs[i]? = some v → b.toList[i]? = some v' → VR ρ v v') : VR ρ (.clo f fs cs) (.func (.func f) a b)
  | nilf : VR ρ .nilf .nilFunc
  | ifc (t : Nat) {v : V} {v' : Value} (h : VR ρ v v') : VR ρ (.ifc t v) (.iface t v')
  | nili : VR ρ .nili .nilIface
def VRL (ρ : Rho) (l : List V) (a : List Value) : Prop := l.length = a.length ∧ ∀ (i : Nat) v v', l[i]? = some v → a[i]? = some v' → VR ρ v v'
def Ext (p : Nm) (ρ ρ' : Rho) : Prop := (∀ n l, ρ n = some l → ρ' n = some l) ∧ ∀ n l, ρ' n = some l → ρ n = none → under p n = true
def Fresh (p : Nm) (ρ : Rho) : Prop := ∀ n, under p n = true → ρ n = none
theorem Ext.refl (p : Nm) (ρ : Rho) : Ext p ρ ρ := ⟨fun _ _ h => h, fun _ _ h k => by rw [h] at k; cases k⟩
theorem Ext.trans {p : Nm} {a b c : Rho} (h : Ext p a b) (k : Ext p b c) : Ext p a c := ⟨fun n l hn => k.1 n l (h.1 n l hn), fun n l hn ha => by
  cases hb : b n with
  | none => exact k.2 n l hn hb
  | some m => exact h.2 n m hb ha⟩
theorem under_trans {p q n : Nm} (h : under q n = true) (k : under p q = true) : under p n = true := by
  rw [under_iff] at *; exact k.trans h
theorem Ext.up {p q : Nm} {a b : Rho} (h : Ext q a b) (k : under p q = true) : Ext p a b := ⟨h.1, fun n l hn ha => under_trans (h.2 n l hn ha) k⟩
theorem under_cons (i : Nat) (p : Nm) : under p (i :: p) = true := by rw [under_iff]; exact List.suffix_cons i p
theorem under_self (p : Nm) : under p p = true := by rw [under_iff]; exact List.suffix_refl p
theorem Fresh.down {p : Nm} {ρ : Rho} (h : Fresh p ρ) (i : Nat) : Fresh (i :: p) ρ := fun n hn => h n (under_tail hn)
/-- what a fellow made does not lie under i -/
theorem Fresh.ext {p : Nm} {ρ ρ' : Rho} {i j : Nat} (h : Fresh p ρ) (k : Ext (j :: p) ρ ρ') (hij : i ≠ j) : Fresh (i :: p) ρ' := fun n hn => by
  cases hc : ρ' n with
  | none => rfl
  | some l => exact absurd (under_two hn (k.2 n l hc (h n (under_tail hn)))) hij
theorem VR.ext {p : Nm} {ρ ρ' : Rho} (h : Ext p ρ ρ') {v : V} {v' : Value} (k : VR ρ v v') : VR ρ' v v' := by
  induction k with
  | int k n => exact .int k n
  | bool b => exact .bool b
  | str s => exact .str s
  | nilp => exact .nilp
  | ptr o hn => exact .ptr o (h.1 _ _ hn)
  | nils => exact .nils
  | slg o len cap cap' opn ad hn hlc hc he ho had => exact .slg o len cap cap' opn ad (h.1 _ _ hn) hlc hc he ho had
  | agg hl hs _ ih => exact .agg hl hs ih
  | tup hl _ ih => exact .tup hl ih
  | clo f hl _ kl _ ih1 ih2 => exact .clo f hl ih1 kl ih2
  | nilf => exact .nilf
  | ifc t _ ih => exact .ifc t ih
  | nili => exact .nili
theorem VRL.ext {p : Nm} {ρ ρ' : Rho} (h : Ext p ρ ρ') {v : List V} {v' : List Value} (k : VRL ρ v v') : VRL ρ' v v' := ⟨k.1, fun i a b ha hb => (k.2 i a b ha hb).ext h⟩
theorem VR.scalar {ρ : Rho} {v : V} {v' : Value} (h : VR ρ v v') (hs : v.scalar = true) : v'.oneCell' = true := by
  cases h <;> first | rfl | (simp [V.scalar] at hs)
theorem VRL.nil (ρ : Rho) : VRL ρ [] [] := ⟨rfl, fun i v v' h => by simp at h⟩
theorem VRL.cons {ρ : Rho} {v : V} {v' : Value} {l : List V} {l' : List Value} (h : VR ρ v v') (k : VRL ρ l l') : VRL ρ (v :: l) (v' :: l') := by
  refine ⟨by simp [k.1], fun i a b ha hb => ?_⟩
  cases i with
  | zero => simp at ha hb; rw [← ha, ← hb]; exact h
  | succ i => simp at ha hb; exact k.2 i a b ha hb
theorem VRL.head {ρ : Rho} {v : V} {l : List V} {m : List Value} (h : VRL ρ (v :: l) m) : ∃ v' l', m = v' :: l' ∧ VR ρ v v' ∧ VRL ρ l l' := by
  cases m with
  | nil => have := h.1; simp at this
  | cons v' l' => exact ⟨v', l', rfl, h.2 0 _ _ (by simp) (by simp), by have := h.1; simpa using this, fun i a b ha hb => h.2 (i + 1) a b (by simpa using ha) (by simpa using hb)⟩
theorem VRL.get {ρ : Rho} {l : List V} {m : List Value} (h : VRL ρ l m) {i : Nat} {v : V} (hv : l[i]? = some v) : ∃ v', m[i]? = some v' ∧ VR ρ v v' := by
  have hi : i < l.length := (List.getElem?_eq_some_iff.1 hv).1
  exact ⟨m[i]'(h.1 ▸ hi), List.getElem?_eq_getElem _, h.2 i v _ hv (List.getElem?_eq_getElem _)⟩
theorem VRL.append {ρ : Rho} {a b : List V} {a' b' : List Value} (h : VRL ρ a a') (k : VRL ρ b b') : VRL ρ (a ++ b) (a' ++ b') := by
  refine ⟨by simp [h.1, k.1], fun i v v' hv hv' => ?_⟩
  by_cases hi : i < a.length
  · rw [List.getElem?_append_left hi] at hv
    rw [List.getElem?_append_left (h.1 ▸ hi)] at hv'
    exact h.2 i v v' hv hv'
  · rw [List.getElem?_append_right (by omega)] at hv
    rw [List.getElem?_append_right (by rw [← h.1]; omega), ← h.1] at hv'
    exact k.2 _ v v' hv hv'
theorem VRL.take {ρ : Rho} {a : List V} {a' : List Value} (h : VRL ρ a a') (n : Nat) : VRL ρ (a.take n) (a'.take n) := by
  refine ⟨by simp [h.1], fun i v v' hv hv' => ?_⟩
  rw [List.getElem?_take] at hv hv'
  split at hv <;> simp_all
  exact h.2 i v v' hv hv'
theorem VRL.drop {ρ : Rho} {a : List V} {a' : List Value} (h : VRL ρ a a') (n : Nat) : VRL ρ (a.drop n) (a'.drop n) := by
  refine ⟨by simp [h.1], fun i v v' hv hv' => ?_⟩
  rw [List.getElem?_drop] at hv hv'
  exact h.2 _ v v' hv hv'
theorem VRL.over' {ρ : Rho} {a b : List V} {a' b' : List Value} (h : VRL ρ a a') (k : VRL ρ b b') (o : Nat) : VRL ρ (over a o b) (over a' o b') := by
  unfold over; rw [k.1]
  exact ((h.take o).append k).append (h.drop _)
def Scal (l : List V) : Prop := ∀ v ∈ l, v.scalar = true
theorem VR.cells {ρ : Rho} {v : V} {v' : Value} (h : VR ρ v v') (ht : ∀ l, v ≠ .tup l) : VRL ρ v.cells v'.cells.toList ∧ Scal v.cells := by
  cases h with
  | agg hl hs k => exact ⟨⟨by simpa [V.cells, Value.cells] using hl, k⟩, hs⟩
  | tup => exact absurd rfl (ht _)
  | _ =>
    refine ⟨?_, fun v hv => ?_⟩
    · refine VRL.cons ?_ (VRL.nil _)
      constructor <;> assumption
    · simp only [V.cells, List.mem_singleton] at hv
      subst hv; rfl
theorem VR.agg' {ρ : Rho} {l : List V} {m : List Value} (h : VRL ρ l m) (hs : Scal l) : VR ρ (.agg l) (.agg m.toArray) := .agg (by simpa using h.1) hs (by simpa using h.2)
theorem VR.tup' {ρ : Rho} {l : List V} {m : List Value} (h : VRL ρ l m) : VR ρ (.tup l) (.tuple m.toArray) := .tup (by simpa using h.1) (by simpa using h.2)

theorem agg_of {ρ : Rho} {l : List V} {x : Value} (h : VR ρ (.agg l) x) : ∃ m : Array Value, x = .agg m ∧ VRL ρ l m.toList ∧ Scal l := by
  cases h with
  | agg hl hs k => exact ⟨_, rfl, ⟨by simpa using hl, k⟩, hs⟩
theorem tup_of {ρ : Rho} {l : List V} {x : Value} (h : VR ρ (.tup l) x) : ∃ m : Array Value, x = .tuple m ∧ VRL ρ l m.toList := by
  cases h with
  | tup hl k => exact ⟨_, rfl, ⟨by simpa using hl, k⟩⟩
theorem ptr_of {ρ : Rho} {n : Nm} {o : Nat} {x : Value} (h : VR ρ (.ptr n o) x) : ∃ l, ρ n = some l ∧ x = .pointer (some ⟨l.blk, l.off + o, none⟩) := by
  cases h with
  | ptr o hl => exact ⟨_, hl, rfl⟩
theorem nils_of {ρ : Rho} {x : Value} (h : VR ρ .nils x) : x = .slice none 0 0 := by cases h; rfl
theorem sl_of {ρ : Rho} {n : Nm} {o len cap : Nat} {opn : Bool} {x : Value} (h : VR ρ (.sl n o len cap opn) x) :
    ∃ l cap' ad, ρ n = some l ∧ x = .slice ad len cap' ∧ cap ≤ cap' ∧ (opn = false → cap' = cap) ∧ (opn = true → o + cap' * l.esz ≤ l.tot) ∧ len ≤ cap ∧ (cap' ≠ 0 → ad = some ⟨l.blk, l.off + o, none⟩) := by
  cases h with
  | slg o len cap cap' opn ad hl hlc hc he ho had => exact ⟨_, _, _, hl, rfl, hc, he, ho, hlc, had⟩
theorem VR.sl {ρ : Rho} {n : Nm} {l : Loc} (o len cap cap' : Nat) (opn : Bool) (h : ρ n = some l) (hlc : len ≤ cap) (hc : cap ≤ cap') (he : opn = false → cap' = cap) (ho : opn = true → o + cap' * l.esz ≤ l.tot) :
    VR ρ (.sl n o len cap opn) (.slice (some ⟨l.blk, l.off + o, none⟩) len cap') := .slg o len cap cap' opn _ h hlc hc he ho (fun _ => rfl)
theorem clo_of {ρ : Rho} {f : Nat} {fs cs : List V} {x : Value} (h : VR ρ (.clo f fs cs) x) : ∃ a b : Array Value, x = .func (.func f) a b ∧ VRL ρ fs a.toList ∧ VRL ρ cs b.toList := by
  cases h with
  | clo f hl h kl k => exact ⟨_, _, rfl, ⟨by simpa using hl, h⟩, ⟨by simpa using kl, k⟩⟩

/-! ### Blocks -/
def RowR (B0 : Nat) (ρ : Rho) (l : Loc) (c : List V) (esz : Nat) (own : Bool) (w : World) : Prop :=
  (∀ i v, c[i]? = some v → v.scalar = true ∧ ∃ v', w.cell? ⟨l.blk, l.off + i, none⟩ = some v' ∧ VR ρ v v') ∧
  (own = true → B0 ≤ l.blk ∧ l.esz = esz ∧ ∃ cur e, w.heap[l.blk]? = some (.cells cur e (0, 0)) ∧ l.off + l.tot ≤ cur.size ∧ c.length ≤ l.tot)
def BlkR (B0 : Nat) (ρ : Rho) (l : Loc) (w : World) : Blk → Prop
  | .iter s pos => B0 ≤ l.blk ∧ l.off = 0 ∧ w.heap[l.blk]? = some (.stringIter ⟨s.toArray⟩ pos)
  | b => RowR B0 ρ l b.cells b.esz b.own w
structure Sim (B0 : Nat) (w0 : World) (ρ : Rho) (H : Heap) (w : World) : Prop where
  below : Below B0 w0 w
  base : B0 ≤ w.heap.size
  blk : ∀ n b, H n = some b → ∃ l, ρ n = some l ∧ BlkR B0 ρ l w b
  excl : ∀ n m b c ln lm, H n = some b → H m = some c → n ≠ m → b.own = true → (c.own = true ∨ 0 < c.size) → ρ n = some ln → ρ m = some lm → ln.blk ≠ lm.blk
theorem Blk.size_cells (b : Blk) : b.cells.length = b.size := by cases b <;> simp [Blk.cells, Blk.size]
theorem BlkR.row {B0 : Nat} {ρ : Rho} {l : Loc} {w : World} {b : Blk} (h : BlkR B0 ρ l w b) (hb : ∀ s p, b ≠ .iter s p) : RowR B0 ρ l b.cells b.esz b.own w := by
  cases b <;> first | exact h | exact absurd rfl (hb _ _)
theorem BlkR.cellsR {B0 : Nat} {ρ : Rho} {l : Loc} {w : World} {b : Blk} (h : BlkR B0 ρ l w b) : ∀ i v, b.cells[i]? = some v → v.scalar = true ∧ ∃ v', w.cell? ⟨l.blk, l.off + i, none⟩ = some v' ∧ VR ρ v v' := by
  cases b with
  | iter s p => intro i v hv; simp [Blk.cells] at hv
  | _ => exact h.1
theorem BlkR.lt {B0 : Nat} {ρ : Rho} {l : Loc} {w : World} {b : Blk} (h : BlkR B0 ρ l w b) (ho : b.own = true ∨ 0 < b.size) : l.blk < w.heap.size := by
  by_cases hi : ∃ s p, b = .iter s p
  · obtain ⟨s, p, rfl⟩ := hi
    exact (Array.getElem?_eq_some_iff.1 h.2.2).1
  · have h := h.row (fun s p e => hi ⟨s, p, e⟩)
    rcases ho with ho | ho
    · obtain ⟨_, _, cur, e, hg, _⟩ := h.2 ho
      exact (Array.getElem?_eq_some_iff.1 hg).1
    · have hc : b.cells[0]? = some (b.cells[0]'(by rw [Blk.size_cells]; exact ho)) := List.getElem?_eq_getElem _
      obtain ⟨_, v', hv, _⟩ := h.1 0 _ hc
      exact World.block_lt_of_cell? w _ hv
theorem BlkR.ext {B0 : Nat} {p : Nm} {ρ ρ' : Rho} (h : Ext p ρ ρ') {l : Loc} {w : World} {b : Blk} (k : BlkR B0 ρ l w b) : BlkR B0 ρ' l w b := by
  cases b with
  | iter s q => exact k
  | row c e o => exact ⟨fun i v hv => ⟨(k.1 i v hv).1, let ⟨v', a, b⟩ := (k.1 i v hv).2; ⟨v', a, b.ext h⟩⟩, k.2⟩
  | ints c e o => exact ⟨fun i v hv => ⟨(k.1 i v hv).1, let ⟨v', a, b⟩ := (k.1 i v hv).2; ⟨v', a, b.ext h⟩⟩, k.2⟩
/-- the block's cells stay where the world keeps block l.blk -/
theorem BlkR.world {B0 : Nat} {ρ : Rho} {l : Loc} {w w' : World} {b : Blk} (k : BlkR B0 ρ l w b) (h : (b.own = true ∨ 0 < b.size) → w'.heap[l.blk]? = w.heap[l.blk]?) : BlkR B0 ρ l w' b := by
  have row : ∀ (c : List V) (e : Nat) (o : Bool), ((o = true ∨ 0 < c.length) → w'.heap[l.blk]? = w.heap[l.blk]?) → RowR B0 ρ l c e o w → RowR B0 ρ l c e o w' := fun c e o h k => by
    refine ⟨fun i v hv => ⟨(k.1 i v hv).1, ?_⟩, fun ho => ?_⟩
    · obtain ⟨v', a, b⟩ := (k.1 i v hv).2
      refine ⟨v', ?_, b⟩
      rw [World.cell?_of_block (h (.inr (by have := (List.getElem?_eq_some_iff.1 hv).1; omega)))]; exact a
    · rw [h (.inl ho)]; exact k.2 ho
  cases b with
  | iter s q => exact ⟨k.1, k.2.1, by rw [h (.inl rfl)]; exact k.2.2⟩
  | row c e o => exact row _ _ _ (by simpa [Blk.own, Blk.size, Blk.cells] using h) k
  | ints c e o => exact row _ _ _ (by simpa [Blk.own, Blk.size, Blk.cells] using h) k

theorem Sim.drop {B0 : Nat} {w0 : World} {ρ : Rho} {H H1 : Heap} {w : World} (h : Sim B0 w0 ρ H w) (k : Le H1 H) : Sim B0 w0 ρ H1 w :=
  ⟨h.below, h.base, fun n b hb => h.blk n b (k n b hb), fun n m b c ln lm hn hm => h.excl n m b c ln lm (k n b hn) (k m c hm)⟩
theorem Sim.drew {B0 : Nat} {w0 : World} {ρ : Rho} {H : Heap} {w : World} (h : Sim B0 w0 ρ H w) : Sim B0 w0 ρ H w.drew :=
  ⟨h.below.drew, h.base, fun n b hb => let ⟨l, hl, k⟩ := h.blk n b hb; ⟨l, hl, k.world fun _ => rfl⟩, h.excl⟩
theorem Sim.rho {B0 : Nat} {w0 : World} {ρ ρ' : Rho} {H : Heap} {w : World} {p : Nm} (h : Sim B0 w0 ρ H w) (k : Ext p ρ ρ') : Sim B0 w0 ρ' H w :=
  ⟨h.below, h.base, fun n b hb => let ⟨l, hl, q⟩ := h.blk n b hb; ⟨l, k.1 _ _ hl, q.ext k⟩, fun n m b c ln lm hn hm hne hb hc hln hlm => by
    obtain ⟨l1, a1, _⟩ := h.blk n b hn
    obtain ⟨l2, a2, _⟩ := h.blk m c hm
    have b1 := k.1 _ _ a1; rw [hln] at b1; cases b1
    have b2 := k.1 _ _ a2; rw [hlm] at b2; cases b2
    exact h.excl n m b c ln lm hn hm hne hb hc a1 a2⟩
def Rho.put (ρ : Rho) (n : Nm) (l : Loc) : Rho := fun m => if m = n then some l else ρ m
theorem Ext.put {p : Nm} {ρ : Rho} (h : ρ p = none) (l : Loc) : Ext p ρ (ρ.put p l) := by
  refine ⟨fun n m hn => ?_, fun n m hn h0 => ?_⟩
  · unfold Rho.put; rw [if_neg]; exact hn; intro e; rw [e, h] at hn; cases hn
  · unfold Rho.put at hn
    split at hn
    · rename_i e; rw [e]; exact under_self p
    · rw [h0] at hn; cases hn
theorem app_one (H : Heap) (n : Nm) (b : Option Blk) (m : Nm) : app H [(n, b)] m = if m = n then b else H m := by
  simp only [app, look]
  split
  · rename_i c h; split at h <;> simp_all
  · rename_i h; split at h <;> simp_all
/-- a new block -/
theorem Sim.new {B0 : Nat} {w0 : World} {ρ : Rho} {H : Heap} {w w' : World} {p : Nm} (h : Sim B0 w0 ρ H w) (hf : ρ p = none) (hw : w.grownBy w' none) (l : Loc) (hl : w.heap.size ≤ l.blk) (b : Blk)
    (hb : BlkR B0 (ρ.put p l) l w' b) : Sim B0 w0 (ρ.put p l) (app H [(p, some b)]) w' := by
  have e := Ext.put hf l
  have hHp : H p = none := by
    cases hc : H p with
    | none => rfl
    | some c => obtain ⟨l', h1, _⟩ := h.blk p c hc; rw [hf] at h1; cases h1
  have old : ∀ m c lm, H m = some c → (c.own = true ∨ 0 < c.size) → ρ m = some lm → lm.blk < w.heap.size := fun m c lm hm hc hlm => by
    obtain ⟨l', h1, h2⟩ := h.blk m c hm
    rw [hlm] at h1; cases h1
    exact h2.lt hc
  refine ⟨h.below.grown hw h.base (fun k e => by cases e), by have := hw.size; have := h.base; omega, fun n c hn => ?_, fun n m b' c ln lm hn hm hne hb' hc hln hlm => ?_⟩
  · rw [app_one] at hn
    split at hn
    · rename_i en; cases hn; exact ⟨l, by unfold Rho.put; rw [if_pos en], hb⟩
    · rename_i en
      obtain ⟨l', h1, h2⟩ := h.blk n c hn
      refine ⟨l', e.1 _ _ h1, (h2.ext e).world fun hc => ?_⟩
      exact hw.block _ (h2.lt hc) (by simp)
  · rw [app_one] at hn hm
    by_cases e1 : n = p
    · rw [if_pos e1] at hn; cases hn
      have e2 : m ≠ p := fun e2 => hne (e1.trans e2.symm)
      rw [if_neg e2] at hm
      unfold Rho.put at hln hlm
      rw [if_pos e1] at hln; cases hln
      rw [if_neg e2] at hlm
      have := old m c lm hm hc hlm; omega
    · rw [if_neg e1] at hn
      unfold Rho.put at hln hlm
      rw [if_neg e1] at hln
      by_cases e2 : m = p
      · rw [if_pos e2] at hm hlm; cases hm; cases hlm
        have := old n b' ln hn (.inl hb') hln; omega
      · rw [if_neg e2] at hm hlm
        exact h.excl n m b' c ln lm hn hm hne hb' hc hln hlm
/-- a block of the call's own is written -/
theorem Sim.write {B0 : Nat} {w0 : World} {ρ : Rho} {H : Heap} {w w' : World} {n : Nm} {b b' : Blk} {l : Loc} (h : Sim B0 w0 ρ H w) (hn : H n = some b) (ho : b.own = true) (hl : ρ n = some l)
    (hw : w.grownBy w' (some l.blk)) (hs : w'.heap.size = w.heap.size) (ho' : b'.own = true) (hb : BlkR B0 ρ l w' b') : Sim B0 w0 ρ (app H [(n, some b')]) w' := by
  obtain ⟨l0, h0, hk⟩ := h.blk n b hn
  rw [hl] at h0; cases h0
  have hB : B0 ≤ l.blk := by
    by_cases hi : ∃ s p, b = .iter s p
    · obtain ⟨s, p, rfl⟩ := hi; exact hk.1
    · exact ((hk.row (fun s p e => hi ⟨s, p, e⟩)).2 ho).1
  refine ⟨h.below.grown hw h.base (fun k e => by cases e; exact hB), by have := h.base; omega, fun m c hm => ?_, fun m q c d lm lq hm hq hne hc hd hlm hlq => ?_⟩
  · rw [app_one] at hm
    split at hm
    · rename_i e; cases hm; exact ⟨l, by rw [e]; exact hl, hb⟩
    · rename_i e
      obtain ⟨l', h1, h2⟩ := h.blk m c hm
      refine ⟨l', h1, h2.world fun hc => hw.block _ (h2.lt hc) (fun e2 => ?_)⟩
      exact h.excl n m b c l l' hn hm (fun e3 => e e3.symm) ho hc hl h1 (by simpa using e2.symm)
  · rw [app_one] at hm hq
    by_cases e1 : m = n
    · rw [if_pos e1] at hm; cases hm
      have e2 : q ≠ n := fun e2 => hne (e1.trans e2.symm)
      rw [if_neg e2] at hq
      exact h.excl n q b d lm lq hn hq (Ne.symm e2) ho hd (by rw [← e1]; exact hlm) hlq
    · rw [if_neg e1] at hm
      by_cases e2 : q = n
      · rw [if_pos e2] at hq; cases hq
        exact h.excl m n c b lm lq hm hn e1 hc (.inl ho) hlm (by rw [← e2]; exact hlq)
      · rw [if_neg e2] at hq
        exact h.excl m q c d lm lq hm hq hne hc hd hlm hlq
/-- a block of the call's own goes on under another name -/
theorem Sim.move {B0 : Nat} {w0 : World} {ρ : Rho} {H : Heap} {w w' : World} {m p : Nm} {b b' : Blk} {l : Loc} (h : Sim B0 w0 ρ H w) (hm : H m = some b) (ho : b.own = true) (hl : ρ m = some l) (hf : ρ p = none)
    (hw : w.grownBy w' (some l.blk)) (hs : w'.heap.size = w.heap.size) (ho' : b'.own = true) (hb : BlkR B0 (ρ.put p l) l w' b') : Sim B0 w0 (ρ.put p l) (app H [(p, some b'), (m, none)]) w' := by
  have hmp : m ≠ p := fun e => by rw [e, hf] at hl; cases hl
  have e := Ext.put hf l
  obtain ⟨l0, h0, hk⟩ := h.blk m b hm
  rw [hl] at h0; cases h0
  have hB : B0 ≤ l.blk := by
    by_cases hi : ∃ s p, b = .iter s p
    · obtain ⟨s, p, rfl⟩ := hi; exact hk.1
    · exact ((hk.row (fun s p e => hi ⟨s, p, e⟩)).2 ho).1
  have happ : ∀ n, app H [(p, some b'), (m, none)] n = if n = p then some b' else if n = m then none else H n := fun n => by
    show (match look [(p, some b'), (m, none)] n with | some b => b | none => H n) = _
    simp only [look]
    by_cases e1 : n = p
    · rw [if_pos e1, if_pos e1]
    · rw [if_neg e1, if_neg e1]
      by_cases e2 : n = m
      · rw [if_pos e2, if_pos e2]
      · rw [if_neg e2, if_neg e2]
  refine ⟨h.below.grown hw h.base (fun k e => by cases e; exact hB), by have := h.base; omega, fun n c hn => ?_, fun n q c d ln lq hn hq hne hc hd hln hlq => ?_⟩
  · rw [happ] at hn
    by_cases e1 : n = p
    · rw [if_pos e1] at hn; cases hn
      exact ⟨l, by unfold Rho.put; rw [if_pos e1], hb⟩
    · rw [if_neg e1] at hn
      by_cases e2 : n = m
      · rw [if_pos e2] at hn; cases hn
      · rw [if_neg e2] at hn
        obtain ⟨l', h1, h2⟩ := h.blk n c hn
        refine ⟨l', e.1 _ _ h1, (h2.ext e).world fun hc => hw.block _ (h2.lt hc) (fun e3 => ?_)⟩
        exact h.excl m n b c l l' hm hn (Ne.symm e2) ho hc hl h1 (by simpa using e3.symm)
  · rw [happ] at hn hq
    unfold Rho.put at hln hlq
    by_cases e1 : n = p
    · rw [if_pos e1] at hn hln; cases hn; cases hln
      have e2 : q ≠ p := fun e2 => hne (e1.trans e2.symm)
      rw [if_neg e2] at hq hlq
      by_cases e3 : q = m
      · rw [if_pos e3] at hq; cases hq
      · rw [if_neg e3] at hq
        exact h.excl m q b d _ lq hm hq (Ne.symm e3) ho hd hl hlq
    · rw [if_neg e1] at hn hln
      by_cases e4 : n = m
      · rw [if_pos e4] at hn; cases hn
      · rw [if_neg e4] at hn
        by_cases e2 : q = p
        · rw [if_pos e2] at hq hlq; cases hq; cases hlq
          exact h.excl n m c b ln _ hn hm e4 hc (.inl ho) hln hl
        · rw [if_neg e2] at hq hlq
          by_cases e3 : q = m
          · rw [if_pos e3] at hq; cases hq
          · rw [if_neg e3] at hq
            exact h.excl n q c d ln lq hn hq hne hc hd hln hlq
end Go.Proofs.YtalnnbokmpppjaaAb
