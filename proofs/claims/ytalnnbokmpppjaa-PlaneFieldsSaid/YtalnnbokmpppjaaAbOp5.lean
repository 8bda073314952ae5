/- The operations that make, read and write blocks. -/
import Derived.Test.YtalnnbokmpppjaaAbOp4
import Derived.Laws.MakeOwn
import Derived.Laws.IdiomStrings
import Derived.Laws.BytesString
import Derived.Laws.RangeString
namespace Go.Proofs.YtalnnbokmpppjaaAb
open Go Go.RowKit
set_option linter.unusedVariables false
set_option linter.unusedSimpArgs false

theorem intsOf_cells {k : IntKind} : ∀ {c : List V} {l : List Int}, intsOf k c = some l → c = l.map (V.int k)
  | [], l, h => by cases h; rfl
  | x :: c, l, h => by
    unfold intsOf at h
    split at h
    · cases ‹x :: c = []›
    · rename_i k' n r he
      cases he
      split at h
      · rename_i hk; subst hk
        obtain ⟨m, hm, rfl⟩ := Option.map_eq_some_iff.1 h
        rw [intsOf_cells hm]; rfl
      · cases h
    · cases h
theorem intsOf_map (k : IntKind) : ∀ (l : List Int), intsOf k (l.map (V.int k)) = some l
  | [] => rfl
  | x :: l => by simp [intsOf, intsOf_map k l]
theorem mkBlk_spec {ik : Option IntKind} {esz : Nat} {c : List V} {b : Blk} (h : mkBlk ik esz c = some b) : b.cells = c ∧ b.own = true ∧ (∀ s q, b ≠ .iter s q) ∧ b.esz = esz := by
  unfold mkBlk at h
  split at h
  · split at h
    · rename_i h1
      obtain ⟨l, hl, rfl⟩ := Option.map_eq_some_iff.1 h
      exact ⟨(intsOf_cells hl).symm, rfl, (fun s q e => by cases e), h1.symm⟩
    · cases h
  · cases h
    exact ⟨rfl, rfl, (fun s q e => by cases e), rfl⟩
theorem over_get {α : Type} (L : List α) (o : Nat) (xs : List α) (h : o + xs.length ≤ L.length) (i : Nat) : (over L o xs)[i]? = if i < o then L[i]? else if i < o + xs.length then xs[i - o]? else L[i]? := by
  unfold over
  by_cases h1 : i < o
  · rw [if_pos h1, List.append_assoc, List.getElem?_append_left (by simp; omega), List.getElem?_take, if_pos h1]
  · rw [if_neg h1]
    by_cases h2 : i < o + xs.length
    · rw [if_pos h2, List.getElem?_append_left (by simp; omega), List.getElem?_append_right (by simp; omega)]
      congr 1; simp; omega
    · rw [if_neg h2, List.getElem?_append_right (by simp; omega), List.getElem?_drop]
      congr 1; simp; omega
theorem put_spec {b b' : Blk} {o : Nat} {xs : List V} (h : b.put o xs = some b') : b.own = true ∧ b'.own = true ∧ b'.esz = b.esz ∧ o + xs.length ≤ b.size ∧ b'.cells = over b.cells o xs ∧ (∀ s q, b ≠ .iter s q) ∧ (∀ s q, b' ≠ .iter s q) := by
  unfold Blk.put at h
  split at h
  · split at h <;> cases h
    rename_i hc
    exact ⟨rfl, rfl, rfl, by simpa [Blk.size] using hc, rfl, (fun s q e => by cases e), (fun s q e => by cases e)⟩
  · obtain ⟨ys, hy, h⟩ := Option.bind_eq_some_iff.1 h
    split at h <;> cases h
    rename_i hc
    have := intsOf_cells hy
    subst this
    refine ⟨rfl, rfl, rfl, by simpa [Blk.size] using hc, ?_, (fun s q e => by cases e), (fun s q e => by cases e)⟩
    simp only [Blk.cells, over, List.map_append, List.map_take, List.map_drop, List.length_map]
  · cases h
theorem range_spec {b : Blk} {o n : Nat} {cs : List V} (h : b.range o n = some cs) : o + n ≤ b.size ∧ cs = (b.cells.drop o).take n ∧ cs.length = n := by
  unfold Blk.range at h
  split at h <;> cases h
  rename_i hc
  exact ⟨hc, rfl, by simp [Blk.size_cells]; omega⟩
theorem get_cells (b : Blk) (i : Nat) : b.get i = b.cells[i]? := by cases b <;> simp [Blk.get, Blk.cells]
theorem pick_list {cs : List V} : ∀ {P : Nat → V → Value → Prop}, (∀ (i : Nat) v, cs[i]? = some v → ∃ v', P i v v') → ∃ cs' : List Value, cs.length = cs'.length ∧ ∀ (i : Nat) v v', cs[i]? = some v → cs'[i]? = some v' → P i v v' := by
  induction cs with
  | nil => exact fun _ => ⟨[], rfl, fun i v v' h => by simp at h⟩
  | cons x cs ih =>
    intro P h
    obtain ⟨x', hx⟩ := h 0 x rfl
    obtain ⟨cs', h1, h2⟩ := ih (P := fun i => P (i + 1)) (fun i v hv => h (i + 1) v (by simpa using hv))
    refine ⟨x' :: cs', by simp [h1], fun i v v' hv hv' => ?_⟩
    cases i with
    | zero => simp at hv hv'; subst hv; subst hv'; exact hx
    | succ i => exact h2 i v v' (by simpa using hv) (by simpa using hv')
section
variable {P : Program} {res : Nat → Option Nat} {nt : Nat} {o : Oper} {e : Env} {a : Act} {w : World} {B0 : Nat} {w0 : World} {ρ : Rho} {H : Heap} {p : Nm} {c : CallF} {v : V} {u : Upd}

/-- a run of cells, as the world has it -/
theorem range_R {l : Loc} {b : Blk} (h : BlkR B0 ρ l w b) {off n : Nat} {cs : List V} (hr : b.range off n = some cs) :
    ∃ cs' : List Value, cs'.length = n ∧ VRL ρ cs cs' ∧ Scal cs ∧ ∀ (j : Nat) v', cs'[j]? = some v' → w.cell? ((⟨l.blk, l.off + off, none⟩ : Addr).add j) = some v' := by
  obtain ⟨h1, h2, h3⟩ := range_spec hr
  have hc := h.cellsR
  have hget : ∀ (i : Nat) v, cs[i]? = some v → b.cells[off + i]? = some v := fun i v hv => by
    rw [h2, List.getElem?_take] at hv
    split at hv
    · rwa [List.getElem?_drop] at hv
    · cases hv
  obtain ⟨cs', k1, k2⟩ := pick_list (cs := cs) (P := fun i v v' => w.cell? ⟨l.blk, l.off + (off + i), none⟩ = some v' ∧ VR ρ v v') (fun i v hv => (hc _ v (hget i v hv)).2)
  refine ⟨cs', by omega, ⟨k1, fun i v v' hv hv' => (k2 i v v' hv hv').2⟩, fun v hv => ?_, fun j v' hv' => ?_⟩
  · obtain ⟨i, hi⟩ := List.getElem?_of_mem hv
    exact (hc _ v (hget i v hi)).1
  · have hj : j < cs.length := by rw [k1]; exact (List.getElem?_eq_some_iff.1 hv').1
    rw [Addr.add_lit, Nat.add_assoc]
    exact (k2 j _ v' (List.getElem?_eq_getElem hj) hv').1
theorem oneCells {cs : List V} {cs' : List Value} (h : VRL ρ cs cs') (hs : Scal cs) : ∀ v ∈ cs', v.oneCell' = true := fun v' hv' => by
  obtain ⟨i, hi⟩ := List.getElem?_of_mem hv'
  have hlt : i < cs.length := by rw [h.1]; exact (List.getElem?_eq_some_iff.1 hi).1
  exact (h.2 i _ v' (List.getElem?_eq_getElem hlt) hi).scalar (hs _ (List.getElem_mem hlt))
/-- a new row of the call's own -/
theorem new_row (hS : Sim B0 w0 ρ H w) (hf : ρ p = none) {w1 : World} (hw1 : w1.heap.size = w.heap.size) (hg1 : w.grownBy w1 none) (cs : Array Value) (et : TypeId) {b : Blk} (hbi : ∀ s q, b ≠ .iter s q) (hc : VRL ρ b.cells (cs.toList.take b.cells.length)) (hsc : Scal b.cells) :
    let l : Loc := ⟨w.heap.size, 0, cs.size, b.esz⟩
    Sim B0 w0 (ρ.put p l) (app H [(p, some b)]) (w1.alloc (.cells cs et)) ∧ Ext p ρ (ρ.put p l) ∧ (ρ.put p l) p = some l := by
  intro l
  have e := Ext.put hf l
  have hg : w.grownBy (w1.alloc (.cells cs et)) none := ⟨hg1.os, hg1.tape, hg1.output, by have := hg1.size; simp; omega, fun k hk hne => (heap_alloc_old w1 _ k (by omega)).trans (hg1.block k hk hne)⟩
  refine ⟨hS.new hf hg l (Nat.le_refl _) b ?_, e, by simp [Rho.put]⟩
  have row : RowR B0 (ρ.put p l) l b.cells b.esz b.own (w1.alloc (.cells cs et)) := by
    refine ⟨fun i v hv => ⟨hsc v (List.mem_of_getElem? hv), ?_⟩, fun _ => ⟨hS.base, rfl, cs, et, ?_, by simp [l], ?_⟩⟩
    · obtain ⟨v', h1, h2⟩ := hc.get hv
      refine ⟨v', ?_, h2.ext e⟩
      rw [List.getElem?_take] at h1
      split at h1
      · show (w1.alloc _).cell? ⟨w.heap.size, 0 + i, none⟩ = _
        rw [← hw1, World.cell?_alloc_new]
        simpa using h1
      · cases h1
    · show (w1.alloc _).heap[w.heap.size]? = _
      rw [← hw1]; exact heap_alloc_new w1 _
    · have := hc.1
      simp only [List.length_take, Array.length_toList] at this
      show b.cells.length ≤ cs.size
      omega
  cases b with
  | iter s q => exact absurd rfl (hbi s q)
  | row => exact row
  | ints => exact row
theorem sim_alloc (hS : Sim B0 w0 ρ H w) (hF : Fresh p ρ) {t : TypeId} (hop : o.op = .alloc t) {z : List V} (hz : zeroOf P t = some z) (he : evI c e H p (.alloc z) = some (v, u)) : Done P o a w B0 w0 ρ H p v u := by
  cases he
  obtain ⟨it, zv, h1, h2, h3, h4, h5⟩ := zeroOf_R (ρ := ρ) hz
  have hl : zv.cells.toList.take z.length = zv.cells.toList := List.take_of_length_le (by have := h4.1; omega)
  obtain ⟨k1, k2, k3⟩ := new_row hS (hF p (under_self p)) rfl ⟨rfl, rfl, rfl, Nat.le_refl _, fun _ _ _ => rfl⟩ zv.cells t (b := .row z 0 true) (fun s q e => by cases e) (by simpa [Blk.cells, hl] using h4) h5
  refine ⟨_, _, _, .pointer (some ⟨w.heap.size, 0, none⟩), ?_, .inl rfl, ?_, k2, k1⟩
  · unfold execOp; rw [hop]
    simp [Instr.alloc, zeroValue, typeInfo, h1, h2, newVar, newRow]
  · exact .ptr 0 k3
theorem sim_box (hE : EnvR ρ nt e a) (hS : Sim B0 w0 ρ H w) (hF : Fresh p ρ) {t : TypeId} {x : Operand} (hop : o.op = .box t x) {x' : X} (hx : cX nt x = some x') (he : evI c e H p (.box x') = some (v, u)) : Done P o a w B0 w0 ρ H p v u := by
  cases he
  have h1 := VR.opd hE hx
  have hc : VRL ρ (x'.ev e).cells ((a.eval x).cells.toList.take (x'.ev e).cells.length) ∧ Scal (x'.ev e).cells := by
    by_cases ht : ∃ l, x'.ev e = .tup l
    · obtain ⟨l, hl⟩ := ht
      rw [hl]; exact ⟨by simpa [V.cells] using VRL.nil ρ, fun v hv => by simp [V.cells] at hv⟩
    · obtain ⟨k1, k2⟩ := h1.cells (fun l hl => ht ⟨l, hl⟩)
      exact ⟨by rw [List.take_of_length_le (by have := k1.1; omega)]; exact k1, k2⟩
  obtain ⟨k1, k2, k3⟩ := new_row hS (hF p (under_self p)) rfl ⟨rfl, rfl, rfl, Nat.le_refl _, fun _ _ _ => rfl⟩ (a.eval x).cells t (b := .row (x'.ev e).cells 0 true) (fun s q e => by cases e) hc.1 hc.2
  refine ⟨_, _, _, .pointer (some ⟨w.heap.size, 0, none⟩), ?_, .inl rfl, ?_, k2, k1⟩
  · unfold execOp; rw [hop]
    simp [Instr.box, newVar, newRow]
  · exact .ptr 0 k3
theorem run_aggLoad {l : Loc} {b : Blk} (hb : BlkR B0 ρ l w b) {t : TypeId} {g : Option Nat} (hg : aggOf P t = some g) {off : Nat} (h : aggLoad b off g = some v) :
    ∃ v', (loadVar t ⟨l.blk, l.off + off, none⟩).run P w = .ok v' w ∧ VR ρ v v' := by
  obtain ⟨d, i, hd, hi, hz, hagg, hn⟩ := aggOf_run hg
  cases g with
  | none =>
    simp only [aggLoad, get_cells] at h
    obtain ⟨_, v', h1, h2⟩ := hb.cellsR _ v h
    exact ⟨v', by simp [loadVar, hagg, h1], h2⟩
  | some n =>
    obtain ⟨cs, hcs, rfl⟩ := Option.map_eq_some_iff.1 h
    have := hn n rfl; subst this
    obtain ⟨cs', h1, h2, h3, h4⟩ := range_R hb hcs
    refine ⟨.agg cs'.toArray, ?_, VR.agg' h2 h3⟩
    have hr := run_loadCells_list (P := P) w ⟨l.blk, l.off + off, none⟩ cs' h4
    rw [h1] at hr
    simp [loadVar, hagg, run_sizeOf' hi, hr]
theorem sim_load (hE : EnvR ρ nt e a) (hS : Sim B0 w0 ρ H w) {t : TypeId} {x : Operand} (hop : o.op = .load t x) {x' : X} (hx : cX nt x = some x') {g : Option Nat} (hg : aggOf P t = some g) (he : evI c e H p (.load g x') = some (v, u)) : Done P o a w B0 w0 ρ H p v u := by
  simp only [evI] at he
  split at he
  · rename_i n off e1
    obtain ⟨b, hb, he1⟩ := Option.bind_eq_some_iff.1 he
    obtain ⟨v1, hv1, he2⟩ := Option.map_eq_some_iff.1 he1
    cases he2
    have h1 := VR.opd hE hx
    rw [e1] at h1
    obtain ⟨l, hl, hx'⟩ := ptr_of h1
    obtain ⟨l', k1, k2⟩ := hS.blk n b hb
    rw [hl] at k1; cases k1
    obtain ⟨v', h3, h4⟩ := run_aggLoad k2 hg hv1
    refine Done.dry hS (v' := v') ?_ h4
    unfold execOp; rw [hop]; simp [Instr.loadAt, hx', Instr.sureAddr, h3]
  · cases he
/-- a write into a block of the call's own -/
theorem sim_put (hS : Sim B0 w0 ρ H w) {n : Nm} {b b' : Blk} (hb : H n = some b) {off : Nat} {xs : List V} (hp : b.put off xs = some b') {l : Loc} (hl : ρ n = some l) {vs : List Value} (hv : VRL ρ xs vs) (hs : Scal xs) :
    ∃ (cur : Array Value) (et : TypeId), w.heap[l.blk]? = some (.cells cur et (0, 0)) ∧ l.off + off + vs.length ≤ cur.size ∧
      Sim B0 w0 ρ (app H [(n, some b')]) (w.setRow l.blk (cur.toList.take (l.off + off) ++ vs ++ cur.toList.drop (l.off + off + vs.length)).toArray) := by
  obtain ⟨h1, h2, h3, h4, h5, h6, h7⟩ := put_spec hp
  obtain ⟨l', k1, k2⟩ := hS.blk n b hb
  rw [hl] at k1; cases k1
  have hrow := k2.row h6
  obtain ⟨hB, hesz, cur, et, hg, hsz, htot⟩ := hrow.2 h1
  rw [Blk.size_cells] at htot
  have hlen : vs.length = xs.length := hv.1.symm
  have hfit : l.off + off + vs.length ≤ cur.size := by omega
  refine ⟨cur, et, hg, hfit, ?_⟩
  have hgb : w.grownBy (w.setRow l.blk (cur.toList.take (l.off + off) ++ vs ++ cur.toList.drop (l.off + off + vs.length)).toArray) (some l.blk) := ⟨rfl, rfl, rfl, by simp, fun k _ hk => setRow_other w l.blk k _ (fun e => hk (by simp [e]))⟩
  refine hS.write hb h1 hl hgb (by simp) h2 ?_
  have hrow' : RowR B0 ρ l b'.cells b'.esz b'.own (w.setRow l.blk (cur.toList.take (l.off + off) ++ vs ++ cur.toList.drop (l.off + off + vs.length)).toArray) := by
    refine ⟨fun i v hi => ?_, fun _ => ⟨hB, hesz.trans h3.symm, _, et, setRow_heap w l.blk cur _ et (0, 0) hg, ?_, ?_⟩⟩
    · rw [h5] at hi
      have hc5 : off + xs.length ≤ b.cells.length := by rw [Blk.size_cells]; exact h4
      have hw' : (w.setRow l.blk (cur.toList.take (l.off + off) ++ vs ++ cur.toList.drop (l.off + off + vs.length)).toArray).cell? ⟨l.blk, l.off + i, none⟩ = (over cur.toList (l.off + off) vs)[l.off + i]? := by
        rw [cell_setRow_same w l.blk (l.off + i) cur _ et (0, 0) hg]
        simp [over]
      rw [hw', over_get _ _ _ (by simpa using hfit)]
      rw [over_get _ _ _ hc5] at hi
      by_cases c1 : i < off
      · rw [if_pos c1] at hi
        rw [if_pos (by omega)]
        obtain ⟨s1, v', h8, h9⟩ := hrow.1 i v hi
        refine ⟨s1, v', ?_, h9⟩
        rw [cell_of_row w l.blk (l.off + i) cur et (0, 0) hg] at h8
        simpa using h8
      · rw [if_neg c1] at hi
        rw [if_neg (by omega)]
        by_cases c2 : i < off + xs.length
        · rw [if_pos c2] at hi
          rw [if_pos (by omega)]
          obtain ⟨v', h8, h9⟩ := hv.get hi
          refine ⟨hs v (List.mem_of_getElem? hi), v', ?_, h9⟩
          rw [show l.off + i - (l.off + off) = i - off by omega]; exact h8
        · rw [if_neg c2] at hi
          rw [if_neg (by omega)]
          obtain ⟨s1, v', h8, h9⟩ := hrow.1 i v hi
          refine ⟨s1, v', ?_, h9⟩
          rw [cell_of_row w l.blk (l.off + i) cur et (0, 0) hg] at h8
          simpa using h8
    · simp; omega
    · rw [h5, over_len _ _ _ (by rw [Blk.size_cells]; exact h4), Blk.size_cells]; exact htot
  cases b' with
  | iter s q => exact absurd rfl (h7 s q)
  | row => exact hrow'
  | ints => exact hrow'
theorem sim_store (hE : EnvR ρ nt e a) (hS : Sim B0 w0 ρ H w) {t : TypeId} {x y : Operand} (hop : o.op = .store t x y) {x' y' : X} (hx : cX nt x = some x') (hy : cX nt y = some y') {sz : Nat} (hsz : sizeP P t = some sz) (he : evI c e H p (.store sz x' y') = some (v, u)) : Done P o a w B0 w0 ρ H p v u := by
  simp only [evI] at he
  split at he
  · rename_i n off e1
    by_cases hlen : (y'.ev e).cells.length = sz
    case neg => rw [if_neg hlen] at he; cases he
    rw [if_pos hlen] at he
    obtain ⟨b, hb, he1⟩ := Option.bind_eq_some_iff.1 he
    obtain ⟨b', hb', he2⟩ := Option.map_eq_some_iff.1 he1
    cases he2
    have h1 := VR.opd hE hx
    rw [e1] at h1
    obtain ⟨l, hl, hx'⟩ := ptr_of h1
    obtain ⟨i, hi, hisz, hz⟩ := sizeP_info hsz
    have hnt : ∀ l, y'.ev e ≠ .tup l := fun l he => by rw [he] at hlen; simp [V.cells] at hlen; omega
    obtain ⟨k1, k2⟩ := (VR.opd hE hy).cells hnt
    obtain ⟨cur, et, g1, g2, g3⟩ := sim_put hS hb hb' hl k1 k2
    have hst := run_storeCells_at P l.blk (l.off + off) et (a.eval y).cells.toList 0 cur w g1 (by simpa using g2) (oneCells k1 k2)
    simp only [Nat.add_zero] at hst
    refine ⟨.skip, _, ρ, undef, ?_, .inr ⟨rfl, rfl⟩, VR.undef ρ, Ext.refl _ _, g3⟩
    have hys : (a.eval y).cells.size = i.size := by have := k1.1; simp at this; omega
    unfold execOp; rw [hop]
    simp only [Instr.storeAt, hx', Instr.sureAddr, storeVar, Sem.run_bind, Sem.run_pure, Result.andThen_ok, run_sizeOf' hi, hys, ne_eq, not_true_eq_false, if_false, hst]
  · cases he
end
end Go.Proofs.YtalnnbokmpppjaaAb
