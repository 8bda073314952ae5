/- copy and append. -/
import Derived.Test.YtalnnbokmpppjaaAbOp6
namespace Go.Proofs.YtalnnbokmpppjaaAb
open Go Go.RowKit
set_option linter.unusedVariables false
set_option linter.unusedSimpArgs false
section
variable {P : Program} {res : Nat → Option Nat} {nt : Nat} {o : Oper} {e : Env} {a : Act} {w : World} {B0 : Nat} {w0 : World} {ρ : Rho} {H : Heap} {p : Nm} {c : CallF} {v : V} {u : Upd}
theorem run_lenV {y : V} {y' : Value} (h : VR ρ y y') {n : Nat} (hn : lenV y = some n) : (Builtin.lenOf y').run P w = .ok n w := by
  unfold lenV at hn
  split at hn <;> cases hn
  · rw [nils_of h]; rfl
  · rw [str_of h]; simp [Builtin.lenOf, bsize]
  · obtain ⟨l, c', ad, _, hx, _⟩ := sl_of h; rw [hx]; rfl
/-- what is read off the source; w1: a world with the same blocks -/
theorem run_src (hS : Sim B0 w0 ρ H w) {esz n : Nat} {y : V} {y' : Value} (h : VR ρ y y') {ys : List V} (hs : srcCells H esz n y = some ys) {m : Nat} (hm : lenV y = some m) (hnm : n ≤ m) {w1 : World} (hw1 : w1.heap = w.heap) :
    ∃ ys' : List Value, (Builtin.firstCells esz n y').run P w1 = .ok ys'.toArray w1 ∧ ys'.length = n * esz ∧ VRL ρ ys ys' ∧ Scal ys := by
  unfold srcCells at hs
  split at hs
  · cases hs
    cases hm
    obtain rfl : n = 0 := by omega
    exact ⟨[], by rw [nils_of h]; simp [Builtin.firstCells], by simp, VRL.nil ρ, fun v hv => by simp at hv⟩
  · rename_i s
    split at hs <;> cases hs
    rename_i he; subst he
    cases hm
    refine ⟨(s.take n).map fun b => .int .u8 b.toNat, ?_, by simp; omega, ⟨by simp [strCells], fun i v v' hv hv' => ?_⟩, fun v hv => ?_⟩
    · rw [str_of h]
      have : (⟨s.toArray⟩ : ByteArray).extract 0 n = ⟨(s.take n).toArray⟩ := by rw [extract_str]; simp
      simp only [Builtin.firstCells, this, Sem.run_pure]
      congr 1
      apply Array.ext'; simp
    · simp only [strCells, List.getElem?_take, List.getElem?_map] at hv hv'
      split at hv
      · rename_i hlt
        simp only [hlt, if_true] at hv'
        obtain ⟨b, hb, rfl⟩ := Option.map_eq_some_iff.1 hv
        rw [hb] at hv'
        cases hv'
        exact .int _ _
      · cases hv
    · simp only [strCells] at hv
      obtain ⟨b, _, rfl⟩ := List.mem_map.1 (List.mem_of_mem_take hv)
      rfl
  · rename_i mm off len cap opn
    split at hs
    · rename_i hnl
      obtain ⟨l, c', ad, hl, hx, hcc, _, _, hlc, had⟩ := sl_of h
      split at hs
      · rename_i h0
        cases hs
        subst h0
        exact ⟨[], by rw [hx]; cases ad <;> simp [Builtin.firstCells, loadCells, loadCellsFrom], by simp, VRL.nil ρ, fun v hv => by simp at hv⟩
      · rename_i hn0
        rw [had (by omega)] at hx
        obtain ⟨b, hb, h2⟩ := Option.bind_eq_some_iff.1 hs
        obtain ⟨l', k1, k2⟩ := hS.blk mm b hb
        rw [hl] at k1; cases k1
        obtain ⟨cs', c1, c2, c3, c4⟩ := range_R k2 h2
        refine ⟨cs', ?_, c1, c2, c3⟩
        rw [hx]
        exact run_firstCells_some w1 esz n _ len c' cs' c1 (fun j v hv => by
          have := c4 j v hv
          unfold World.cell? at this ⊢
          rw [hw1]; exact this)
    · cases hs
  · cases hs
theorem exec_builtin2 {bt : Builtin} {x y : Operand} {xs : Array Operand} {ts : Array TypeId} (hop : o.op = .call { callee := .builtin bt, args := xs, argTypes := ts }) (hxs : xs.toList = [x, y]) {v' : Value} {w' : World}
    (h : ∀ cs, (builtin bt ts o.type cs #[a.eval x, a.eval y]).run P w = .ok (.value v') w') : (execOp a.eval o).run P w = .ok (.value v') w' := by
  have : xs = #[x, y] := by apply Array.ext'; simpa using hxs
  subst this
  unfold execOp; rw [hop]
  simp [resolve, invoke, h]
theorem run_store_none (ad : Addr) (i : Nat) : (storeCells ad [] i).run P w = .ok () w := rfl
theorem sim_copy (hE : EnvR ρ nt e a) (hS : Sim B0 w0 ρ H w) {t et : TypeId} {x y : Operand} {xs : Array Operand} {ts : Array TypeId} (hop : o.op = .call { callee := .builtin .copy, args := xs, argTypes := ts }) (hxs : xs.toList = [x, y]) (hts : ∃ r, ts.toList = t :: r)
    {x' y' : X} (hx : cX nt x = some x') (hy : cX nt y = some y') (hu : P.underlying t = some (.slice et)) {sz : Nat} (hsz : sizeP P et = some sz) (he : evI c e H p (.copy sz x' y') = some (v, u)) : Done P o a w B0 w0 ρ H p v u := by
  have ht0 : ts[0]? = some t := by
    obtain ⟨r, hr⟩ := hts
    have : ts.toList[0]? = some t := by rw [hr]; rfl
    simpa using this
  obtain ⟨i, hi, hisz, hz0⟩ := sizeP_info hsz
  have h1 := VR.opd hE hx
  have h2 := VR.opd hE hy
  simp only [evI] at he
  obtain ⟨m, hm, he1⟩ := Option.bind_eq_some_iff.1 he
  have hlen := run_lenV (P := P) (w := w) h2 hm
  split at he1
  · rename_i e1
    rw [e1] at h1
    cases he1
    have hfc : ∃ arr, (Builtin.firstCells sz 0 (a.eval y)).run P w = .ok arr w := by
      unfold lenV at hm
      split at hm <;> cases hm <;> rename_i ey <;> rw [ey] at h2
      · exact ⟨_, by rw [nils_of h2]; rfl⟩
      · exact ⟨_, by rw [str_of h2]; rfl⟩
      · obtain ⟨l, c', ad, _, hx', _⟩ := sl_of h2
        exact ⟨#[], by rw [hx']; cases ad <;> simp [Builtin.firstCells, loadCells, loadCellsFrom]⟩
    obtain ⟨arr, harr⟩ := hfc
    refine Done.dry hS (exec_builtin2 hop hxs (v' := .int .i64 0) fun cs => ?_) (.int _ _)
    simp [builtin, Builtin.copy_, ht0, run_underlying hu, nils_of h1, hlen, run_sizeOf' hi, hisz, harr, goInt]
  · rename_i nm off len cap opn e1
    rw [e1] at h1
    obtain ⟨l, c', ad, hl, hx', hcc, _, _, hlc, had⟩ := sl_of h1
    by_cases h0 : min m len = 0
    · rw [if_pos h0] at he1
      cases he1
      have hfc : ∃ arr, (Builtin.firstCells sz 0 (a.eval y)).run P w = .ok arr w ∧ arr = #[] := by
        unfold lenV at hm
        split at hm <;> cases hm <;> rename_i ey <;> rw [ey] at h2
        · exact ⟨_, by rw [nils_of h2]; rfl, rfl⟩
        · refine ⟨_, by rw [str_of h2]; rfl, ?_⟩
          apply Array.ext'; simp
        · obtain ⟨l, c', ad, _, hx', _⟩ := sl_of h2
          exact ⟨#[], by rw [hx']; cases ad <;> simp [Builtin.firstCells, loadCells, loadCellsFrom], rfl⟩
      obtain ⟨arr, harr, hem⟩ := hfc
      subst hem
      refine Done.dry hS (exec_builtin2 hop hxs (v' := .int .i64 0) fun cs => ?_) (.int _ _)
      have h0' : Nat.min m len = 0 := h0
      cases ad <;> simp [builtin, Builtin.copy_, ht0, run_underlying hu, hx', hlen, run_sizeOf' hi, hisz, h0', harr, goInt, run_store_none]
    · rw [if_neg h0] at he1
      rw [had (by omega)] at hx'
      obtain ⟨ys, hys, he2⟩ := Option.bind_eq_some_iff.1 he1
      obtain ⟨b, hb, he3⟩ := Option.bind_eq_some_iff.1 he2
      obtain ⟨b', hb', he4⟩ := Option.map_eq_some_iff.1 he3
      cases he4
      obtain ⟨ys', f1, f2, f3, f4⟩ := run_src (P := P) hS h2 hys hm (Nat.min_le_left _ _) (w1 := w) rfl
      obtain ⟨cur, et', g1, g2, g3⟩ := sim_put hS hb hb' hl f3 f4
      have hst := run_storeCells_at P l.blk (l.off + off) et' ys' 0 cur w g1 (by simpa using g2) (oneCells f3 f4)
      simp only [Nat.add_zero] at hst
      refine ⟨_, _, ρ, .int .i64 (min m len : Nat), exec_builtin2 hop hxs (v' := .int .i64 (min m len : Nat)) fun cs => ?_, .inl rfl, .int _ _, Ext.refl _ _, g3⟩
      have e5 : Nat.min m len = min m len := rfl
      simp [builtin, Builtin.copy_, ht0, run_underlying hu, hx', hlen, run_sizeOf' hi, hisz, f1, hst, goInt, e5]
  · cases he1
/-! append -/
theorem run_app_room {t ut et : TypeId} {ts : Array TypeId} (ht0 : ts[0]? = some t) (ht1 : ts[1]? = some ut) (hu : P.underlying t = some (.slice et)) (hut : (∃ q, P.underlying ut = some (.slice q)) ∨ P.underlying ut = some .string) {i : TypeInfo} (hi : P.info? et = some i)
    {base : Option Addr} {sLen sCap n : Nat} {y' : Value} {new : Array Value} {w' : World} (hlen : (Builtin.lenOf y').run P w = .ok n w) (hnew : (Builtin.firstCells i.size n y').run P w = .ok new w) (hroom : sLen + n ≤ sCap)
    (hst : match base with | some ad => (storeCells (ad.add (sLen * i.size)) new.toList).run P w = .ok () w' | none => w' = w) (ty : TypeId) :
    (Builtin.append_ ts ty #[.slice base sLen sCap, y']).run P w = .ok (.slice base (sLen + n) sCap) w' := by
  cases base with
  | none =>
    simp only at hst; subst hst
    rcases hut with ⟨q, hq⟩ | hq <;> simp [Builtin.append_, ht0, ht1, run_underlying hu, run_underlying hq, run_sizeOf' hi, hlen, hroom, hnew]
  | some ad =>
    simp only at hst
    rcases hut with ⟨q, hq⟩ | hq <;> simp [Builtin.append_, ht0, ht1, run_underlying hu, run_underlying hq, run_sizeOf' hi, hlen, hroom, hnew, hst]
theorem run_app_grow {t ut et : TypeId} {ts : Array TypeId} (ht0 : ts[0]? = some t) (ht1 : ts[1]? = some ut) (hu : P.underlying t = some (.slice et)) (hut : (∃ q, P.underlying ut = some (.slice q)) ∨ P.underlying ut = some .string) {i : TypeInfo} (hi : P.info? et = some i) {z : Value} (hz : i.zero = some z) (hb0 : i.bytes ≠ 0)
    {base : Option Addr} {sLen sCap n : Nat} {y' : Value} {old new : Array Value} (hlen : (Builtin.lenOf y').run P w = .ok n w) (hnew : (Builtin.firstCells i.size n y').run P w.drew = .ok new w.drew) (hold : (Builtin.firstCells i.size sLen (.slice base sLen sCap)).run P w.drew = .ok old w.drew)
    (hroom : sCap < sLen + n) (hfit : (sLen + n) * i.bytes ≤ 140737488351232) (ty : TypeId) :
    (Builtin.append_ ts ty #[.slice base sLen sCap, y']).run P w = .ok (.slice (some ⟨w.heap.size, 0, none⟩) (sLen + n) (grownCap w (sLen + n) sCap et)) (w.drew.alloc (.cells (old ++ new ++ Builtin.zeroCells z.cells (grownCap w (sLen + n) sCap et - (sLen + n))) et)) := by
  have hn : ¬ (sLen + n ≤ sCap) := by omega
  have hbig : ¬ (281474976710656 < Builtin.nextslicecap (sLen + n) sCap * i.bytes) := by have := growslice_fits (need := sLen + n) (old := sCap) (bytes := i.bytes) hroom (by omega); omega
  have hti : ∀ w, (typeInfo et).run P w = .ok i w := fun w => by simp [typeInfo, hi]
  have hzv : ∀ w, (zeroValue et).run P w = .ok z w := fun w => by simp [zeroValue, typeInfo, hi, hz]
  have hsz : ∀ w, (sizeOf et).run P w = .ok i.size w := fun w => run_sizeOf' hi
  rcases hut with ⟨q, hq⟩ | hq <;> simp [Builtin.append_, ht0, ht1, run_underlying hu, run_underlying hq, hsz, hlen, hn, hti, hbig, hb0, hzv, hold, hnew, newRow, grownCap, Question.forced]
theorem app_le {H : Heap} {p m : Nm} {b : Option Blk} : Le (app H [(p, b), (m, none)]) (app H [(p, b)]) := by
  intro n c h
  rw [app_one]
  have : app H [(p, b), (m, none)] n = if n = p then b else if n = m then none else H n := by
    show (match look [(p, b), (m, none)] n with | some b => b | none => H n) = _
    simp only [look]
    by_cases e1 : n = p
    · rw [if_pos e1, if_pos e1]
    · rw [if_neg e1, if_neg e1]
      by_cases e2 : n = m
      · rw [if_pos e2, if_pos e2]
      · rw [if_neg e2, if_neg e2]
  rw [this] at h
  split at h
  · rename_i e; rw [if_pos e]; exact h
  · rename_i e; rw [if_neg e]
    split at h
    · cases h
    · exact h
theorem sim_app (hE : EnvR ρ nt e a) (hS : Sim B0 w0 ρ H w) (hF : Fresh p ρ) {t ut et : TypeId} {x y : Operand} {xs : Array Operand} {ts : Array TypeId} (hop : o.op = .call { callee := .builtin .append, args := xs, argTypes := ts }) (hxs : xs.toList = [x, y]) (hts : ts.toList = [t, ut])
    {x' y' : X} (hx : cX nt x = some x') (hy : cX nt y = some y') (hu : P.underlying t = some (.slice et)) (hut : (∃ q, P.underlying ut = some (.slice q)) ∨ P.underlying ut = some .string) {i : TypeInfo} (hi : P.info? et = some i) {z : Value} (hz : i.zero = some z) (hzs : z.cells.size = i.size) (hs0 : i.size ≠ 0) (hb0 : i.bytes ≠ 0) {ik : Option IntKind}
    (he : evI c e H p (.app i.size i.bytes ik x' y') = some (v, u)) : Done P o a w B0 w0 ρ H p v u := by
  have hts' : ts = #[t, ut] := by apply Array.ext'; simpa using hts
  subst hts'
  have h1 := VR.opd hE hx
  have h2 := VR.opd hE hy
  simp only [evI, evApp] at he
  obtain ⟨n, hn, he1⟩ := Option.bind_eq_some_iff.1 he
  obtain ⟨ys, hys, he2⟩ := Option.bind_eq_some_iff.1 he1
  clear he he1
  have hlen := run_lenV (P := P) (w := w) h2 hn
  obtain ⟨ys', f1, f2, f3, f4⟩ := run_src (P := P) hS h2 hys hn (Nat.le_refl _) (w1 := w) rfl
  obtain ⟨ys2, g1, g2, g3, g4⟩ := run_src (P := P) hS h2 hys hn (Nat.le_refl _) (w1 := w.drew) rfl
  have room : ∀ (base : Option Addr) (sLen sCap : Nat) (w' : World), a.eval x = .slice base sLen sCap → sLen + n ≤ sCap → (match base with | some ad => (storeCells (ad.add (sLen * i.size)) ys').run P w = .ok () w' | none => w' = w) → (execOp a.eval o).run P w = .ok (.value (.slice base (sLen + n) sCap)) w' :=
    fun base sLen sCap w' hx' hr hst => exec_builtin2 hop hxs fun cs => by
      have := run_app_room (P := P) (w := w) (ts := #[t, ut]) rfl rfl hu hut hi (base := base) hlen f1 hr (w' := w') (by cases base <;> simpa using hst) o.type
      simp [builtin, hx', this]
  have grow : ∀ (base : Option Addr) (sLen sCap : Nat) (old : List Value), a.eval x = .slice base sLen sCap → (Builtin.firstCells i.size sLen (.slice base sLen sCap)).run P w.drew = .ok old.toArray w.drew → sCap < sLen + n → (sLen + n) * i.bytes ≤ 140737488351232 →
      (execOp a.eval o).run P w = .ok (.value (.slice (some ⟨w.heap.size, 0, none⟩) (sLen + n) (grownCap w (sLen + n) sCap et))) (w.drew.alloc (.cells (old.toArray ++ ys2.toArray ++ Builtin.zeroCells z.cells (grownCap w (sLen + n) sCap et - (sLen + n))) et)) :=
    fun base sLen sCap old hx' hold hr hfit => exec_builtin2 hop hxs fun cs => by
      have := run_app_grow (P := P) (w := w) (ts := #[t, ut]) rfl rfl hu hut hi hz hb0 hlen g1 hold hr hfit o.type
      simp [builtin, hx', this]
  -- a new row that holds old and new
  have fresh : ∀ (b' : Blk) (oldV : List V) (old : List Value) (sLen sCap : Nat), mkBlk ik i.size (oldV ++ ys) = some b' → VRL ρ oldV old → Scal oldV → old.length = sLen * i.size →
      let row := old.toArray ++ ys2.toArray ++ Builtin.zeroCells z.cells (grownCap w (sLen + n) sCap et - (sLen + n))
      ∃ l : Loc, Sim B0 w0 (ρ.put p l) (app H [(p, some b')]) (w.drew.alloc (.cells row et)) ∧ Ext p ρ (ρ.put p l) ∧ VR (ρ.put p l) (.sl p 0 (sLen + n) (sLen + n) true) (.slice (some ⟨w.heap.size, 0, none⟩) (sLen + n) (grownCap w (sLen + n) sCap et)) := by
    intro b' oldV old sLen sCap hmk ho1 ho2 ho3 row
    obtain ⟨m1, m2, m3, m4⟩ := mkBlk_spec hmk
    have hge := grownCap_ge w (sLen + n) sCap et
    have hrl : row.size = grownCap w (sLen + n) sCap et * i.size := by
      simp only [row, Array.size_append, List.size_toArray, size_zeroCells, hzs, ho3, g2, ← Nat.add_mul]
      congr 1; omega
    have htake : row.toList.take b'.cells.length = old ++ ys2 := by
      rw [m1]
      have : (oldV ++ ys).length = (old ++ ys2).length := by simp [ho1.1, g3.1]
      rw [this]
      simp only [row, Array.toList_append]
      exact List.take_left
    obtain ⟨r1, r2, r3⟩ := new_row hS hF.at (w1 := w.drew) rfl (grownBy_drew w) row et (b := b') m3 (by rw [htake, m1]; exact ho1.append g3) (by rw [m1]; intro v hv; rcases List.mem_append.1 hv with hv | hv; exact ho2 v hv; exact g4 v hv)
    exact ⟨_, r1, r2, .sl (l := ⟨w.heap.size, 0, row.size, b'.esz⟩) 0 _ _ _ _ r3 (Nat.le_refl _) hge (fun e => by cases e) (fun _ => by show 0 + _ * b'.esz ≤ row.size; rw [hrl, m4]; omega)⟩
  split at he2
  · rename_i e1
    rw [e1] at h1
    have hx0 := nils_of h1
    by_cases hn0 : n = 0
    · rw [if_pos hn0] at he2
      cases he2
      exact Done.dry hS (by have := room none 0 0 w hx0 (by omega) rfl; simpa [hn0] using this) .nils
    · rw [if_neg hn0] at he2
      by_cases hfit : n * i.bytes ≤ 140737488351232
      case neg => rw [if_neg hfit] at he2; cases he2
      rw [if_pos hfit] at he2
      obtain ⟨b', hb', he3⟩ := Option.map_eq_some_iff.1 he2
      cases he3
      have hr := grow none 0 0 [] hx0 (by simp [Builtin.firstCells]) (by omega) (by simpa using hfit)
      obtain ⟨l, r1, r2, r3⟩ := fresh b' [] [] 0 0 (by simpa using hb') (VRL.nil ρ) (fun v hv => by simp at hv) (by simp)
      simp only [Nat.zero_add] at hr r1 r3
      exact ⟨_, _, _, _, hr, .inl rfl, r3, r2, r1⟩
  · rename_i m off len cap opn e1
    rw [e1] at h1
    obtain ⟨l, cap', ad, hl, hx', hcc, hee, hoo, hlc0, had⟩ := sl_of h1
    by_cases hlc : len ≤ cap
    case neg => rw [if_pos hlc] at he2; cases he2
    rw [if_neg (fun hh => hh hlc)] at he2
    by_cases hn0 : n = 0
    · rw [if_pos hn0] at he2
      cases he2
      have hys0 : ys' = [] := List.eq_nil_of_length_eq_zero (by rw [f2, hn0]; simp)
      have hr := room _ len cap' w hx' (by omega) (by rw [hys0]; cases ad <;> rfl)
      rw [hn0] at hr
      rw [e1]
      exact Done.dry hS hr (.slg _ _ _ _ _ ad hl hlc hcc hee hoo had)
    · rw [if_neg hn0] at he2
      by_cases hfit : (len + n) * i.bytes ≤ 140737488351232
      case neg => rw [if_pos hfit] at he2; cases he2
      rw [if_neg (fun hh => hh hfit)] at he2
      cases hopn : opn
      · -- an exact capacity
        rw [hopn] at he2
        simp only [Bool.false_eq_true, if_false] at he2
        have hce : cap' = cap := hee hopn
        by_cases hroom : len + n ≤ cap
        · rw [if_pos hroom] at he2
          rw [had (by omega)] at hx'
          obtain ⟨b, hb, he3⟩ := Option.bind_eq_some_iff.1 he2
          obtain ⟨b', hb', he4⟩ := Option.map_eq_some_iff.1 he3
          cases he4
          obtain ⟨cur, et', k1, k2, k3⟩ := sim_put hS hb hb' hl f3 f4
          have hst := run_storeCells_at P l.blk (l.off + (off + len * i.size)) et' ys' 0 cur w k1 (by simpa using k2) (oneCells f3 f4)
          simp only [Nat.add_zero] at hst
          have hr := room _ len cap' _ hx' (by omega) (by simp only [Addr.add_lit, Nat.add_assoc] at hst ⊢; exact hst)
          rw [hce] at hr
          refine ⟨_, _, ρ, _, hr, .inl rfl, .sl _ _ _ _ _ hl hroom (Nat.le_refl _) (fun _ => rfl) (fun e => by cases e), Ext.refl _ _, ?_⟩
          simpa only [Nat.add_assoc] using k3
        · rw [if_neg hroom] at he2
          obtain ⟨oldV, ho, he3⟩ := Option.bind_eq_some_iff.1 he2
          obtain ⟨b', hb', he4⟩ := Option.map_eq_some_iff.1 he3
          cases he4
          have hold : ∃ old : List Value, (Builtin.firstCells i.size len (.slice ad len cap')).run P w.drew = .ok old.toArray w.drew ∧ VRL ρ oldV old ∧ Scal oldV ∧ old.length = len * i.size := by
            split at ho
            · rename_i h0; cases ho; subst h0
              exact ⟨[], by cases ad <;> simp [Builtin.firstCells, loadCells, loadCellsFrom], VRL.nil ρ, fun v hv => by simp at hv, by simp⟩
            · rename_i hl0
              rw [had (by omega)]
              obtain ⟨b, hb, ho2⟩ := Option.bind_eq_some_iff.1 ho
              obtain ⟨l', k1, k2⟩ := hS.blk m b hb
              rw [hl] at k1; cases k1
              obtain ⟨cs', c1, c2, c3, c4⟩ := range_R k2 ho2
              exact ⟨cs', run_firstCells_some w.drew i.size len _ len cap' cs' c1 (fun j v hv => c4 j v hv), c2, c3, c1⟩
          obtain ⟨old, o1, o2, o3, o4⟩ := hold
          have hr := grow _ len cap' old hx' o1 (by omega) hfit
          obtain ⟨l2, r1, r2, r3⟩ := fresh b' oldV old len cap' hb' o2 o3 o4
          exact ⟨_, _, _, _, hr, .inl rfl, r3, r2, r1⟩
      · -- grown by append: the end of its block
        rw [hopn] at he2
        simp only [if_true] at he2
        by_cases hend : off = 0 ∧ len = cap
        case neg => rw [if_neg hend] at he2; cases he2
        rw [if_pos hend] at he2
        obtain ⟨b, hb, he3⟩ := Option.bind_eq_some_iff.1 he2
        by_cases hbc : b.size = len * i.size ∧ b.own = true ∧ b.esz = i.size
        case neg => rw [if_neg hbc] at he3; cases he3
        rw [if_pos hbc] at he3
        obtain ⟨b', hb', he4⟩ := Option.map_eq_some_iff.1 he3
        cases he4
        obtain ⟨hoff, hlen2⟩ := hend
        obtain ⟨q1, q2, q3⟩ := hbc
        subst hoff
        unfold joinBlk at hb'
        obtain ⟨m1, m2, m3, m4⟩ := mkBlk_spec hb'
        obtain ⟨l', k1, k2⟩ := hS.blk m b hb
        rw [hl] at k1; cases k1
        have hbi : ∀ s q, b ≠ .iter s q := fun s q eq => by rw [eq] at q3; simp [Blk.esz] at q3; omega
        have hrow := k2.row hbi
        obtain ⟨hB, hesz, cur, et', hg, hsz, htot⟩ := hrow.2 q2
        have hop2 := hoo hopn
        rw [hesz, q3] at hop2
        rw [Blk.size_cells] at htot
        by_cases hroom : len + n ≤ cap'
        · -- in place
          rw [had (by omega)] at hx'
          have hmul : (len + n) * i.size ≤ cap' * i.size := Nat.mul_le_mul_right _ hroom
          rw [Nat.add_mul] at hmul
          have hfitc : l.off + len * i.size + ys'.length ≤ cur.size := by rw [f2]; omega
          have hst := run_storeCells_at P l.blk (l.off + len * i.size) et' ys' 0 cur w hg (by simpa using hfitc) (oneCells f3 f4)
          simp only [Nat.add_zero] at hst
          have hr := room _ len cap' _ hx' hroom (by simp only [Addr.add_lit, Nat.add_zero] at hst ⊢; exact hst)
          have hgb : w.grownBy (w.setRow l.blk (cur.toList.take (l.off + len * i.size) ++ ys' ++ cur.toList.drop (l.off + len * i.size + ys'.length)).toArray) (some l.blk) := ⟨rfl, rfl, rfl, by simp, fun k _ hk => setRow_other w l.blk k _ (fun e => hk (by simp [e]))⟩
          have hx2 := Ext.put hF.at l
          refine ⟨_, _, ρ.put p l, _, hr, .inl rfl, .sl (l := l) 0 _ _ _ _ (by simp [Rho.put]) (Nat.le_refl _) (by omega) (fun e => by cases e) (fun _ => by rw [hesz, q3]; exact hop2), hx2, hS.move hb q2 hl hF.at hgb (by simp) m2 ?_⟩
          have hrow' : RowR B0 (ρ.put p l) l b'.cells b'.esz b'.own (w.setRow l.blk (cur.toList.take (l.off + len * i.size) ++ ys' ++ cur.toList.drop (l.off + len * i.size + ys'.length)).toArray) := by
            refine ⟨fun j v hj => ?_, fun _ => ⟨hB, by rw [hesz, q3, m4], _, et', setRow_heap w l.blk cur _ et' (0, 0) hg, ?_, ?_⟩⟩
            · rw [m1] at hj
              have hw' : (w.setRow l.blk (cur.toList.take (l.off + len * i.size) ++ ys' ++ cur.toList.drop (l.off + len * i.size + ys'.length)).toArray).cell? ⟨l.blk, l.off + j, none⟩ = (over cur.toList (l.off + len * i.size) ys')[l.off + j]? := by
                rw [cell_setRow_same w l.blk (l.off + j) cur _ et' (0, 0) hg]
                simp [over]
              rw [hw', over_get _ _ _ (by simpa using hfitc)]
              have hbl : b.cells.length = len * i.size := by rw [Blk.size_cells]; exact q1
              by_cases c1 : j < b.cells.length
              · rw [List.getElem?_append_left c1] at hj
                rw [if_pos (by omega)]
                obtain ⟨s1, v', h8, h9⟩ := hrow.1 j v hj
                refine ⟨s1, v', ?_, h9.ext hx2⟩
                rw [cell_of_row w l.blk (l.off + j) cur et' (0, 0) hg] at h8
                simpa using h8
              · rw [List.getElem?_append_right (by omega)] at hj
                obtain ⟨v', h8, h9⟩ := f3.get hj
                have hjl : j - b.cells.length < ys'.length := (List.getElem?_eq_some_iff.1 h8).1
                rw [if_neg (by omega), if_pos (by omega)]
                refine ⟨f4 v (List.mem_of_getElem? hj), v', ?_, h9.ext hx2⟩
                rw [show l.off + j - (l.off + len * i.size) = j - b.cells.length by omega]; exact h8
            · simp; omega
            · rw [m1, List.length_append, Blk.size_cells, q1, f3.1, f2]; omega
          cases b' with
          | iter s q => exact absurd rfl (m3 s q)
          | row => exact hrow'
          | ints => exact hrow'
        · -- a new row
          have hrange : b.range 0 (len * i.size) = some b.cells := by
            unfold Blk.range
            rw [if_pos (by omega)]
            simp [List.take_of_length_le, Blk.size_cells, q1]
          obtain ⟨cs', c1, c2, c3, c4⟩ := range_R k2 hrange
          have hold : (Builtin.firstCells i.size len (.slice ad len cap')).run P w.drew = .ok cs'.toArray w.drew := by
            by_cases hl0 : len = 0
            · have hcs : cs' = [] := List.eq_nil_of_length_eq_zero (by rw [c1, hl0]; simp)
              rw [hcs, hl0]
              cases ad <;> simp [Builtin.firstCells, loadCells, loadCellsFrom]
            · rw [had (by omega)]
              exact run_firstCells_some w.drew i.size len _ len cap' cs' c1 (fun j v hv => c4 j v hv)
          have hr := grow _ len cap' cs' hx' hold (by omega) hfit
          obtain ⟨l2, r1, r2, r3⟩ := fresh b' b.cells cs' len cap' hb' c2 c3 c1
          exact ⟨_, _, _, _, hr, .inl rfl, r3, r2, r1.drop app_le⟩
  · cases he2
end
end Go.Proofs.YtalnnbokmpppjaaAb
