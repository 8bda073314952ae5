/- Literals, make, conversions, copy, strings ranged over. -/
import Derived.Test.YtalnnbokmpppjaaAbOp5
namespace Go.Proofs.YtalnnbokmpppjaaAb
open Go Go.RowKit
set_option linter.unusedVariables false
set_option linter.unusedSimpArgs false
section
variable {P : Program} {res : Nat → Option Nat} {nt : Nat} {o : Oper} {e : Env} {a : Act} {w : World} {B0 : Nat} {w0 : World} {ρ : Rho} {H : Heap} {p : Nm} {c : CallF} {v : V} {u : Upd}
theorem Fresh.at {ρ : Rho} {p : Nm} (h : Fresh p ρ) : ρ p = none := h p (under_self p)
theorem grownBy_refl (w : World) : w.grownBy w none := ⟨rfl, rfl, rfl, Nat.le_refl _, fun _ _ _ => rfl⟩
theorem grownBy_drew (w : World) : w.grownBy w.drew none := ⟨rfl, rfl, rfl, Nat.le_refl _, fun _ _ _ => rfl⟩
theorem tile_R {z : List V} {zc : Array Value} (h : VRL ρ z zc.toList) (hs : Scal z) (hz : 0 < z.length) (n : Nat) : VRL ρ (tile z n) ((Array.range n).map (zc[· % zc.size]!)).toList ∧ Scal (tile z n) := by
  have hsz : zc.size = z.length := by have := h.1; simp at this; omega
  have hg : ∀ i, ∃ v v', z.getD (i % z.length) undefV = v ∧ z[i % z.length]? = some v ∧ zc.toList[i % z.length]? = some v' := fun i => by
    have hlt : i % z.length < z.length := Nat.mod_lt _ hz
    refine ⟨z[i % z.length], zc[i % z.length]'(by omega), by simp [List.getD, hlt], List.getElem?_eq_getElem hlt, by simp [hsz, hlt]⟩
  refine ⟨⟨by simp [tile], fun i v v' hv hv' => ?_⟩, fun v hv => ?_⟩
  · simp only [tile, List.getElem?_map] at hv
    simp only [Array.toList_map, Array.toList_range, List.getElem?_map] at hv'
    obtain ⟨j, hj, rfl⟩ := Option.map_eq_some_iff.1 hv
    rw [hj] at hv'
    obtain ⟨v1, v2, h1, h2, h3⟩ := hg j
    rw [h1]
    have : v' = v2 := by
      have hlt : j % z.length < z.length := Nat.mod_lt _ hz
      simp at hv'
      rw [← hv', hsz, getElem!_pos zc _ (by omega)]
      have : zc[j % z.length]? = some v2 := by simpa using h3
      obtain ⟨_, h4⟩ := Array.getElem?_eq_some_iff.1 this
      exact h4
    rw [this]
    exact h.2 _ _ _ h2 h3
  · simp only [tile, List.mem_map] at hv
    obtain ⟨j, _, rfl⟩ := hv
    obtain ⟨v1, v2, h1, h2, h3⟩ := hg j
    rw [h1]; exact hs v1 (List.mem_of_getElem? h2)
theorem fillV_len : ∀ (ps : List (Nat × Nat × V)) (c d : List V), fillV c ps = some d → d.length = c.length
  | [], c, d, h => by cases h; rfl
  | (off, sz, v) :: ps, c, d, h => by
    simp only [fillV] at h
    split at h
    · rename_i hc
      rw [fillV_len ps _ d h, over_len _ _ _ (by omega)]
    · cases h
theorem sim_bldS (hE : EnvR ρ nt e a) (hS : Sim B0 w0 ρ H w) (hF : Fresh p ρ) {t et : TypeId} {len : Nat} {parts : Array (Nat × Operand)} (hop : o.op = .buildSlice t len parts) (hu : P.underlying t = some (.slice et)) {sz : Nat} (hsz : sizeP P et = some sz) {z : List V} (hz : zeroOf P et = some z) (hl : len * sz ≤ 16777216)
    {ps : List (Nat × Nat × X)} (hps : cParts nt (fun k => some (k * sz, sz)) parts.toList = some ps) {ik : Option IntKind} (he : evI c e H p (.bldS len sz ik (tile z (len * sz)) ps) = some (v, u)) : Done P o a w B0 w0 ρ H p v u := by
  simp only [evI] at he
  obtain ⟨d, hd, he1⟩ := Option.bind_eq_some_iff.1 he
  obtain ⟨b, hb, he2⟩ := Option.map_eq_some_iff.1 he1
  cases he2
  obtain ⟨i, hi, hisz, hz0⟩ := sizeP_info hsz
  obtain ⟨it, zv, h1, h2, h3, h4, h5⟩ := zeroOf_R (ρ := ρ) hz
  rw [hi] at h1; cases h1
  have hzl : z.length = sz := by have := h4.1; simp at this; omega
  obtain ⟨t1, t2⟩ := tile_R h4 h5 (by omega) (len * sz)
  obtain ⟨d', k1, k2, k3⟩ := run_fill (ρ := ρ) _ _ _ _ _ (cParts_R hE hps) hd t1 t2
  obtain ⟨m1, m2, m3, m4⟩ := mkBlk_spec hb
  have hdl : VRL ρ b.cells (d'.toList.take b.cells.length) := by rw [m1, List.take_of_length_le (by have := k2.1; omega)]; exact k2
  obtain ⟨r1, r2, r3⟩ := new_row hS hF.at rfl (grownBy_refl w) d' et (b := b) m3 hdl (by rw [m1]; exact k3)
  refine ⟨_, _, _, .slice (some ⟨w.heap.size, 0, none⟩) len len, ?_, .inl rfl, .sl 0 _ _ _ _ r3 (Nat.le_refl _) (Nat.le_refl _) (fun _ => rfl) (fun e => by cases e), r2, r1⟩
  have hp : (parts.map fun q => (q.1, a.eval q.2)).toList = parts.toList.map fun q => (q.1, a.eval q.2) := by simp
  have hsmall : ¬ (len * sz > 2 ^ 24) := by omega
  have hzv : (zeroValue et).run P w = .ok zv w := by simp [zeroValue, typeInfo, hi, h2]
  unfold execOp; rw [hop]
  by_cases h0 : len * sz = 0
  · have hfl : Instr.fill (fun k => some (k * sz, sz)) ((Array.range (len * sz)).map ((#[] : Array Value)[· % (#[] : Array Value).size]!)) (parts.map fun q => (q.1, a.eval q.2)).toList = some d' := by
      rw [hp, ← k1, h0]
      congr 1
      apply Array.ext'; simp
    simp only [Instr.buildSlice, Sem.run_bind, run_underlying hu, Result.andThen_ok, run_sizeOf' hi, hisz, hsmall, if_false, h0, if_true, Sem.run_pure, Nat.zero_mod]
    rw [h0] at hfl
    rw [if_neg (by decide)]
    simp only [hfl, newRow, run_newObj, Sem.run_bind, Sem.run_pure, Result.andThen_ok]
    rfl
  · have hfl : Instr.fill (fun k => some (k * sz, sz)) ((Array.range (len * sz)).map (zv.cells[· % zv.cells.size]!)) (parts.map fun q => (q.1, a.eval q.2)).toList = some d' := by
      rw [hp]; exact k1
    simp only [Instr.buildSlice, Sem.run_bind, run_underlying hu, Result.andThen_ok, run_sizeOf' hi, hisz, hsmall, if_false, h0, Sem.run_pure, hzv, hfl, newRow, run_newObj]
    rfl
theorem sim_mk (hE : EnvR ρ nt e a) (hS : Sim B0 w0 ρ H w) (hF : Fresh p ρ) {t et : TypeId} {x y : Operand} (hop : o.op = .makeSlice t x y) (hu : P.underlying t = some (.slice et)) {i : TypeInfo} (hi : P.info? et = some i) (hz0 : ¬ (i.size = 0 ∨ i.bytes = 0)) {z : List V} (hz : zeroOf P et = some z)
    {x' y' : X} (hx : cX nt x = some x') (hy : cX nt y = some y') {ik : Option IntKind} (he : evI c e H p (.mk i.size i.bytes ik z x' y') = some (v, u)) : Done P o a w B0 w0 ρ H p v u := by
  simp only [evI] at he
  obtain ⟨l, hl, he1⟩ := Option.bind_eq_some_iff.1 he
  obtain ⟨cp, hcp, he2⟩ := Option.bind_eq_some_iff.1 he1
  by_cases hc : l ≤ cp ∧ i.bytes * cp ≤ 140737488351232
  case neg => rw [if_neg hc] at he2; cases he2
  rw [if_pos hc] at he2
  obtain ⟨b, hb, he3⟩ := Option.map_eq_some_iff.1 he2
  cases he3
  obtain ⟨it, zv, h1, h2, h3, h4, h5⟩ := zeroOf_R (ρ := ρ) hz
  rw [hi] at h1; cases h1
  obtain ⟨kl, il, e1, e2, e3⟩ := nat_of hl (VR.opd hE hx)
  obtain ⟨kc, ic, f1, f2, f3⟩ := nat_of hcp (VR.opd hE hy)
  have hzl : z.length = i.size := by have := h4.1; simp at this; omega
  obtain ⟨t1, t2⟩ := tile_R h4 h5 (by omega) (cp * i.size)
  obtain ⟨m1, m2, m3, m4⟩ := mkBlk_spec hb
  have hdl : VRL ρ b.cells ((madeCells zv.cells (cp * i.size)).toList.take b.cells.length) := by rw [m1, List.take_of_length_le (by have := t1.1; unfold madeCells; omega)]; exact t1
  obtain ⟨r1, r2, r3⟩ := new_row hS hF.at rfl (grownBy_refl w) (madeCells zv.cells (cp * i.size)) et (b := b) m3 hdl (by rw [m1]; exact t2)
  have hcp2 : cp ≤ 140737488351232 := Nat.le_trans (Nat.le_mul_of_pos_left cp (by omega)) hc.2
  have hbig : (i.bytes : Int) * ic ≤ 281474976710656 := by
    have : (i.bytes : Int) * ic = ((i.bytes * cp : Nat) : Int) := by rw [Int.natCast_mul]; congr 1; omega
    rw [this]; omega
  have hr := run_make (P := P) w t et i zv hu hi h2 kl kc il ic e2 (by omega) hbig (by omega)
  rw [e3, f3] at hr
  refine ⟨_, _, _, .slice (some ⟨w.heap.size, 0, none⟩) l cp, ?_, .inl rfl, .sl 0 _ _ _ _ r3 hc.1 (Nat.le_refl _) (fun _ => rfl) (fun e => by cases e), r2, r1⟩
  unfold execOp; rw [hop]
  simp [e1, f1, hr]
theorem sim_s2b (hE : EnvR ρ nt e a) (hS : Sim B0 w0 ρ H w) (hF : Fresh p ρ) {src dst et : TypeId} {x : Operand} (hop : o.op = .convert src dst x) (hs : P.underlying src = some .string) (hd : P.underlying dst = some (.slice et)) (het : P.underlying et = some (.int .u8))
    {x' : X} (hx : cX nt x = some x') (he : evI c e H p (.s2b x') = some (v, u)) : Done P o a w B0 w0 ρ H p v u := by
  simp only [evI] at he
  split at he
  · rename_i s e1
    split at he <;> cases he
    have h1 := VR.opd hE hx
    rw [e1] at h1
    have hr := run_bytes_of_string (P := P) w src dst et ⟨s.toArray⟩ hs hd het
    rw [bsize] at hr
    have hge := grownCap_ge w s.length 0 et
    generalize grownCap w s.length 0 et = cap' at hr hge
    generalize hrow : bytesRow ⟨s.toArray⟩ cap' = row at hr
    have hg : w.grownBy (w.drew.alloc (.cells row et (row.size, row.size + 1))) none := ⟨rfl, rfl, rfl, by simp, fun k hk _ => heap_alloc_old w.drew _ k hk⟩
    have hl := Ext.put hF.at (⟨w.heap.size, 0, cap', 1⟩ : Loc)
    have hB : BlkR B0 (ρ.put p ⟨w.heap.size, 0, cap', 1⟩) ⟨w.heap.size, 0, cap', 1⟩ (w.drew.alloc (.cells row et (row.size, row.size + 1))) (.ints .u8 (s.map fun b => (b.toNat : Int)) false) := by
      refine ⟨fun i v hv => ?_, fun h => by cases h⟩
      simp only [Blk.cells, List.getElem?_map, Option.map_map, Option.map_eq_some_iff] at hv
      obtain ⟨q, hq, rfl⟩ := hv
      refine ⟨rfl, .int .u8 q.toNat, ?_, .int _ _⟩
      have hlt : i < s.length := (List.getElem?_eq_some_iff.1 hq).1
      show (w.drew.alloc _).cell? ⟨w.heap.size, 0 + i, none⟩ = _
      rw [cell_of_row (w.drew.alloc _) w.heap.size (0 + i) row et (row.size, row.size + 1) (heap_alloc_new w.drew _), Nat.zero_add, ← hrow]
      simp only [bytesRow]
      rw [Array.getElem?_append_left (by simp; omega)]
      simp [hq]
    refine ⟨.value (.slice (some ⟨w.heap.size, 0, none⟩) s.length cap'), w.drew.alloc (.cells row et (row.size, row.size + 1)), ρ.put p ⟨w.heap.size, 0, cap', 1⟩, .slice (some ⟨w.heap.size, 0, none⟩) s.length cap', ?_, .inl rfl, ?_, hl, hS.new hF.at hg _ (Nat.le_refl _) _ hB⟩
    · unfold execOp; rw [hop]; simp only [str_of h1, Sem.run_bind, hr, Result.andThen_ok]; rfl
    · exact .sl (l := ⟨w.heap.size, 0, cap', 1⟩) 0 _ _ _ _ (by simp [Rho.put]) (Nat.le_refl _) hge (fun e => by cases e) (fun _ => by simp)
  · cases he
theorem push_all : ∀ (ns : List Int) (r : ByteArray), ns.foldl (fun r n => r.push (UInt8.ofNat n.toNat)) r = ⟨r.data ++ (ns.map fun n => UInt8.ofNat n.toNat).toArray⟩
  | [], r => by apply ByteArray.ext; simp
  | n :: ns, r => by
    rw [List.foldl_cons, push_all ns]
    apply ByteArray.ext
    apply Array.ext'
    simp [ByteArray.push]
theorem bytesOf_spec : ∀ {c : List V} {s : List UInt8}, bytesOf c = some s → ∃ ns : List Int, c = ns.map (V.int .u8) ∧ s = ns.map fun n => UInt8.ofNat n.toNat
  | [], s, h => by cases h; exact ⟨[], rfl, rfl⟩
  | x :: c, s, h => by
    unfold bytesOf at h
    split at h
    · cases ‹x :: c = []›
    · rename_i n r he
      cases he
      obtain ⟨m, hm, rfl⟩ := Option.map_eq_some_iff.1 h
      obtain ⟨ns, h1, h2⟩ := bytesOf_spec hm
      exact ⟨n :: ns, by rw [h1]; rfl, by rw [h2]; rfl⟩
    · cases h
theorem VRL.ints {k : IntKind} : ∀ {ns : List Int} {m : List Value}, VRL ρ (ns.map (V.int k)) m → m = ns.map (Value.int k)
  | [], m, h => List.eq_nil_of_length_eq_zero (by have := h.1; simpa using this.symm)
  | n :: ns, m, h => by
    rw [List.map_cons] at h
    obtain ⟨v', l', rfl, h1, h2⟩ := h.head
    rw [int_of h1, VRL.ints h2]; rfl
theorem sim_b2s (hE : EnvR ρ nt e a) (hS : Sim B0 w0 ρ H w) {src dst et : TypeId} {x : Operand} (hop : o.op = .convert src dst x) (hs : P.underlying src = some (.slice et)) (hd : P.underlying dst = some .string) (het : P.underlying et = some (.int .u8))
    {x' : X} (hx : cX nt x = some x') (he : evI c e H p (.b2s x') = some (v, u)) : Done P o a w B0 w0 ρ H p v u := by
  have h1 := VR.opd hE hx
  have fin : ∀ (ad : Option Addr) (len cap : Nat) (s : List UInt8), a.eval x = .slice ad len cap → (Conv.bytesToString (.slice ad len cap)).run P w = .ok (.string ⟨s.toArray⟩) w → v = .str s → u = [] → Done P o a w B0 w0 ρ H p v u := fun ad len cap s hx' hr hv hu => by
    subst hv; subst hu
    refine Done.dry hS (v' := .string ⟨s.toArray⟩) ?_ (.str s)
    have := run_convert_bytes_string (P := P) w src dst et ad len cap hs het hd
    unfold execOp; rw [hop]; simp [hx', this, hr]
  simp only [evI] at he
  split at he
  · rename_i e1
    rw [e1] at h1
    cases he
    exact fin none 0 0 [] (nils_of h1) (by simp [Conv.bytesToString]; rfl) rfl rfl
  · rename_i m off len _ _ e1
    rw [e1] at h1
    obtain ⟨l, cap', ad, hl, hx0, hcc, _, _, hlc, had⟩ := sl_of h1
    by_cases h0 : len = 0
    · rw [if_pos h0] at he
      cases he
      subst h0
      cases ad with
      | none => exact fin _ _ _ [] hx0 (by simp [Conv.bytesToString]; rfl) rfl rfl
      | some ad =>
        have hr := run_bytesToString (P := P) w ad 0 cap' [] (by simp [loadCells, loadCellsFrom])
        exact fin _ _ _ [] hx0 hr rfl rfl
    · rw [if_neg h0] at he
      have hx' : a.eval x = .slice (some ⟨l.blk, l.off + off, none⟩) len cap' := by rw [hx0, had (by omega)]
      obtain ⟨b, hb, he1⟩ := Option.bind_eq_some_iff.1 he
      obtain ⟨cs, hcs, he2⟩ := Option.bind_eq_some_iff.1 he1
      obtain ⟨s, hs', he3⟩ := Option.map_eq_some_iff.1 he2
      cases he3
      obtain ⟨l', k1, k2⟩ := hS.blk m b hb
      rw [hl] at k1; cases k1
      obtain ⟨cs', c1, c2, c3, c4⟩ := range_R k2 hcs
      obtain ⟨ns, n1, n2⟩ := bytesOf_spec hs'
      rw [n1] at c2
      have c5 := VRL.ints c2
      have hload := run_loadCells_list (P := P) w ⟨l.blk, l.off + off, none⟩ cs' c4
      rw [c1, c5] at hload
      have hr := run_bytesToString (P := P) w ⟨l.blk, l.off + off, none⟩ len cap' ns hload
      rw [push_all] at hr
      refine fin _ _ _ s hx' ?_ rfl rfl
      rw [hr, n2]
      congr 2
      apply ByteArray.ext; apply Array.ext'; simp
  · cases he
theorem sim_rng (hE : EnvR ρ nt e a) (hS : Sim B0 w0 ρ H w) (hF : Fresh p ρ) {t : TypeId} {x : Operand} (hop : o.op = .range t x) (hu : P.underlying t = some .string) {x' : X} (hx : cX nt x = some x') (he : evI c e H p (.rng x') = some (v, u)) : Done P o a w B0 w0 ρ H p v u := by
  simp only [evI] at he
  split at he <;> cases he
  rename_i s e1
  have h1 := VR.opd hE hx
  rw [e1] at h1
  have hr := run_range_string (P := P) w t ⟨s.toArray⟩ hu
  let l : Loc := ⟨w.heap.size, 0, 0, 0⟩
  refine ⟨_, _, ρ.put p l, .pointer (some ⟨w.heap.size, 0, none⟩), ?_, .inl rfl, .ptr (l := l) 0 (by simp [Rho.put]), Ext.put hF.at l, hS.new (w' := w.iter ⟨s.toArray⟩ 0) hF.at ⟨rfl, rfl, rfl, by simp [World.iter], fun k hk _ => heap_alloc_old w _ k hk⟩ l (Nat.le_refl _) _ ⟨hS.base, rfl, World.iter_heap w _ 0⟩⟩
  unfold execOp; rw [hop]; simp [str_of h1, hr]
theorem sim_nxt (hE : EnvR ρ nt e a) (hS : Sim B0 w0 ρ H w) {x : Operand} (hop : o.op = .next x true) {x' : X} (hx : cX nt x = some x') (he : evI c e H p (.nxt x') = some (v, u)) : Done P o a w B0 w0 ρ H p v u := by
  simp only [evI] at he
  split at he
  · rename_i n e1
    obtain ⟨b, hb, he1⟩ := Option.bind_eq_some_iff.1 he
    have h1 := VR.opd hE hx
    rw [e1] at h1
    obtain ⟨l, hl, hx'⟩ := ptr_of h1
    obtain ⟨l', k1, k2⟩ := hS.blk n b hb
    rw [hl] at k1; cases k1
    cases b with
    | row => cases he1
    | ints => cases he1
    | iter s pos =>
      obtain ⟨kb, ko, kh⟩ := k2
      have hx2 : a.eval x = .pointer (some ⟨l.blk, 0, none⟩) := by rw [hx', ko]
      simp only at he1
      by_cases hp : pos < s.length
      · rw [if_pos hp] at he1
        cases he1
        refine ⟨_, { w with heap := w.heap.setIfInBounds l.blk (.stringIter ⟨s.toArray⟩ (pos + (Utf8.decode ⟨s.toArray⟩ pos).2)) }, ρ, .tuple #[.bool true, .int .i64 pos, .int .i32 (Utf8.decode ⟨s.toArray⟩ pos).1], ?_, .inl rfl, ?_, Ext.refl _ _, ?_⟩
        · unfold execOp; rw [hop]
          simp only [hx2, Instr.next, getObj, setObj, Sem.run_bind, Sem.run, kh, Result.andThen, bsize, hp, if_true]
          simp [goInt]
        · have := VR.tup' (ρ := ρ) (VRL.cons (.bool true) (VRL.cons (.int .i64 pos) (VRL.cons (.int .i32 (Utf8.decode ⟨s.toArray⟩ pos).1) (VRL.nil ρ))))
          exact this
        · have hlt : l.blk < w.heap.size := (Array.getElem?_eq_some_iff.1 kh).1
          refine hS.write hb rfl hl ⟨rfl, rfl, rfl, by simp, fun k hk hne => ?_⟩ (by simp) rfl ⟨kb, ko, ?_⟩
          · simp only [Array.getElem?_setIfInBounds]
            rw [if_neg (fun e => hne (by simp [e]))]
          · simp [Array.getElem?_setIfInBounds, hlt]
      · rw [if_neg hp] at he1
        cases he1
        refine Done.dry hS (v' := .tuple #[.bool false]) ?_ ?_
        · unfold execOp; rw [hop]
          simp only [hx2, Instr.next, getObj, Sem.run_bind, Sem.run, kh, Result.andThen, bsize, hp, if_false]
          simp
        · have := VR.tup' (ρ := ρ) (VRL.cons (.bool false) (VRL.nil ρ))
          exact this
  · cases he
end
end Go.Proofs.YtalnnbokmpppjaaAb
