/- Operations on parts of values. -/
import Derived.Test.YtalnnbokmpppjaaAbOp2
import Derived.Laws.Tables
namespace Go.Proofs.YtalnnbokmpppjaaAb
open Go Go.RowKit
set_option linter.unusedVariables false
set_option linter.unusedSimpArgs false

section
variable {P : Program} {res : Nat → Option Nat} {nt : Nat} {o : Oper} {e : Env} {a : Act} {w : World} {B0 : Nat} {w0 : World} {ρ : Rho} {H : Heap} {p : Nm} {c : CallF} {v : V} {u : Upd}

theorem aggOf_run {t : TypeId} {g : Option Nat} (h : aggOf P t = some g) : ∃ d i, P.underlying t = some d ∧ P.info? t = some i ∧ i.size ≠ 0 ∧ (∀ w, (isAgg t).run P w = .ok g.isSome w) ∧ (∀ n, g = some n → n = i.size) := by
  unfold aggOf at h
  obtain ⟨d, hd, h⟩ := Option.bind_eq_some_iff.1 h
  obtain ⟨i, hi, h⟩ := Option.bind_eq_some_iff.1 h
  split at h
  · cases h
  · rename_i hz
    refine ⟨d, i, hd, hi, hz, ?_, ?_⟩
    · intro w
      cases d <;> simp only [Option.some.injEq] at h <;> subst h <;> simp [isAgg, run_underlying hd]
    · intro n hn
      cases d <;> simp only [Option.some.injEq] at h <;> subst h <;> cases hn <;> rfl
theorem run_sizeOf' {t : TypeId} {i : TypeInfo} (h : P.info? t = some i) : (sizeOf t).run P w = .ok i.size w := by simp [sizeOf, typeInfo, h]
theorem run_partV {t : TypeId} {g : Option Nat} {off : Nat} {cs : List V} {cs' : Array Value} (hg : aggOf P t = some g) (hc : VRL ρ cs cs'.toList) (hs : Scal cs) (h : partV cs off g = some v) : ∃ v', (part t cs' off).run P w = .ok v' w ∧ VR ρ v v' := by
  obtain ⟨d, i, hd, hi, hz, hagg, hn⟩ := aggOf_run hg
  cases g with
  | none =>
    obtain ⟨v', h1, h2⟩ := hc.get h
    refine ⟨v', ?_, h2⟩
    have : cs'[off]? = some v' := by simpa using h1
    simp [part, hagg, this]
  | some n =>
    simp only [partV] at h
    split at h <;> cases h
    have := hn n rfl
    subst this
    refine ⟨.agg (cs'.extract off (off + i.size)), by simp [part, hagg, run_sizeOf' hi], ?_⟩
    have hext : cs'.extract off (off + i.size) = ((cs'.toList.drop off).take i.size).toArray := by
      apply Array.ext'
      simp [Array.toList_extract, List.extract_eq_take_drop]
    rw [hext]
    exact VR.agg' ((hc.drop off).take i.size) (fun v hv => hs v (List.mem_of_mem_drop (List.mem_of_mem_take hv)))

theorem over_set {α : Type} (L : List α) (o : Nat) (x : α) (l : List α) (h : o + (l.length + 1) ≤ L.length) : over (L.set o x) (o + 1) l = over L o (x :: l) := by
  obtain ⟨A, y, B, rfl, hA⟩ : ∃ A y B, L = A ++ y :: B ∧ A.length = o := ⟨L.take o, L[o]'(by omega), L.drop (o + 1), by rw [← List.drop_eq_getElem_cons, List.take_append_drop], by simp; omega⟩
  subst hA
  unfold over
  simp only [List.length_cons]
  rw [List.set_append_right _ _ (Nat.le_refl _), Nat.sub_self, List.set_cons_zero]
  have e1 : (A ++ x :: B).take (A.length + 1) = A ++ [x] := by
    rw [List.take_append, List.take_of_length_le (by omega), Nat.add_sub_cancel_left]; simp
  have e2 : (A ++ y :: B).take A.length = A := by rw [List.take_append, List.take_of_length_le (by omega), Nat.sub_self]; simp
  have e3 : ∀ z, (A ++ z :: B).drop (A.length + 1 + l.length) = B.drop l.length := fun z => by
    rw [List.drop_append, List.drop_eq_nil_of_le (by omega)]
    have : A.length + 1 + l.length - A.length = l.length + 1 := by omega
    rw [this]; simp
  have e4 : A.length + (l.length + 1) = A.length + 1 + l.length := by omega
  rw [e1, e2, e3, e4, e3]
  simp
theorem fold_over : ∀ (l : List Value) (cs : Array Value) (off k : Nat), off + k + l.length ≤ cs.size → ((l.zipIdx k).foldl (fun cs q => cs.setIfInBounds (off + q.2) q.1) cs).toList = over cs.toList (off + k) l
  | [], cs, off, k, h => by simp [over]
  | x :: l, cs, off, k, h => by
    simp only [List.length_cons] at h
    simp only [List.zipIdx_cons, List.foldl_cons]
    rw [fold_over l _ off (k + 1) (by simp; omega)]
    rw [Array.toList_setIfInBounds, show off + (k + 1) = off + k + 1 by omega]
    exact over_set _ _ _ _ (by simp; omega)
theorem over_len {α : Type} (l : List α) (o : Nat) (xs : List α) (h : o + xs.length ≤ l.length) : (over l o xs).length = l.length := by
  unfold over; simp; omega
theorem Scal.over {l xs : List V} {o : Nat} (h : Scal l) (k : Scal xs) : Scal (over l o xs) := by
  intro v hv
  unfold Go.Proofs.YtalnnbokmpppjaaAb.over at hv
  simp only [List.mem_append] at hv
  rcases hv with (hv | hv) | hv
  · exact h v (List.mem_of_mem_take hv)
  · exact k v hv
  · exact h v (List.mem_of_mem_drop hv)
def PartsR (ρ : Rho) (place : Nat → Option (Nat × Nat)) : List (Nat × Nat × V) → List (Nat × Value) → Prop
  | [], [] => True
  | q :: qs, r :: rs => place r.1 = some (q.1, q.2.1) ∧ q.2.1 ≠ 0 ∧ VR ρ q.2.2 r.2 ∧ PartsR ρ place qs rs
  | _, _ => False
theorem cParts_R (hE : EnvR ρ nt e a) {place : Nat → Option (Nat × Nat)} : ∀ {l : List (Nat × Operand)} {ps : List (Nat × Nat × X)}, cParts nt place l = some ps →
    PartsR ρ place (ps.map fun q => (q.1, q.2.1, q.2.2.ev e)) (l.map fun q => (q.1, a.eval q.2))
  | [], ps, h => by cases h; trivial
  | (i, x) :: l, ps, h => by
    simp only [cParts] at h
    obtain ⟨q, hq, h⟩ := Option.bind_eq_some_iff.1 h
    split at h
    · cases h
    · rename_i hz
      obtain ⟨y, hy, h⟩ := Option.bind_eq_some_iff.1 h
      obtain ⟨r, hr, rfl⟩ := Option.map_eq_some_iff.1 h
      exact ⟨hq, hz, VR.opd hE hy, cParts_R hE hr⟩
theorem run_fill {place : Nat → Option (Nat × Nat)} : ∀ (ps : List (Nat × Nat × V)) (qs : List (Nat × Value)) (cs d : List V) (cs' : Array Value), PartsR ρ place ps qs → fillV cs ps = some d → VRL ρ cs cs'.toList → Scal cs →
    ∃ d', Instr.fill place cs' qs = some d' ∧ VRL ρ d d'.toList ∧ Scal d
  | [], [], cs, d, cs', _, h, hc, hs => by cases h; exact ⟨cs', rfl, hc, hs⟩
  | q :: qs, r :: rs, cs, d, cs', hp, h, hc, hs => by
    obtain ⟨off, sz, v⟩ := q
    obtain ⟨i, v'⟩ := r
    obtain ⟨h1, h2, h3, h4⟩ := hp
    simp only [fillV] at h
    split at h
    · rename_i hcond
      have hnt : ∀ l, v ≠ .tup l := fun l e => by rw [e] at hcond; simp [V.cells] at hcond; exact h2 hcond.1.symm
      obtain ⟨k1, k2⟩ := h3.cells hnt
      have hsz : v'.cells.size = sz := by have := k1.1; simp at this; omega
      have hcs : cs'.size = cs.length := by have := hc.1; simp at this; omega
      have hf : (v'.cells.zipIdx.foldl (fun cs (q : Value × Nat) => cs.setIfInBounds (off + q.2) q.1) cs').toList = over cs'.toList off v'.cells.toList := by
        rw [← Array.foldl_toList, Array.toList_zipIdx]
        exact fold_over v'.cells.toList cs' off 0 (by simp; omega)
      have hv : VRL ρ (over cs off v.cells) (v'.cells.zipIdx.foldl (fun cs (q : Value × Nat) => cs.setIfInBounds (off + q.2) q.1) cs').toList := by
        rw [hf]; exact hc.over' k1 off
      obtain ⟨d', h5, h6, h7⟩ := run_fill qs rs _ d _ h4 h hv (hs.over k2)
      refine ⟨d', ?_, h6, h7⟩
      simp only [Instr.fill, h1, hsz]
      rw [if_neg (by simp; omega)]
      exact h5
    · cases h
  | [], _ :: _, _, _, _, hp, _, _, _ => hp.elim
  | _ :: _, [], _, _, _, hp, _, _, _ => hp.elim
theorem zeroOf_R {t : TypeId} {z : List V} (h : zeroOf P t = some z) : ∃ i zv, P.info? t = some i ∧ i.zero = some zv ∧ zv.cells.size = i.size ∧ VRL ρ z zv.cells.toList ∧ Scal z := by
  unfold zeroOf at h
  obtain ⟨i, hi, h⟩ := Option.bind_eq_some_iff.1 h
  obtain ⟨zv, hz, h⟩ := Option.bind_eq_some_iff.1 h
  split at h
  · rename_i hs
    obtain ⟨h1, h2⟩ := VRL.ofCells' (ρ := ρ) h
    exact ⟨i, zv, hi, hz, hs, h1, h2⟩
  · cases h
theorem allOf_mapM {α β : Type} (f : α → Option β) : ∀ l : List α, l.mapM f = allOf f l
  | [] => rfl
  | x :: l => by
    rw [List.mapM_cons, allOf_mapM f l]
    simp only [allOf, Option.bind_eq_bind, Option.pure_def]
    cases f x <;> simp
    cases allOf f l <;> rfl
theorem sim_bld (hE : EnvR ρ nt e a) (hS : Sim B0 w0 ρ H w) {t : TypeId} {parts : Array (Nat × Operand)} (hop : o.op = .build t parts) {i : I} (hi : cBld P nt t parts = some i) (he : evI c e H p i = some (v, u)) : Done P o a w B0 w0 ρ H p v u := by
  unfold cBld at hi
  obtain ⟨z, hz, hi⟩ := Option.bind_eq_some_iff.1 hi
  obtain ⟨it, zv, h1, h2, h3, h4, h5⟩ := zeroOf_R (ρ := ρ) hz
  have fin : ∀ (place : Nat → Option (Nat × Nat)) (ps : List (Nat × Nat × X)), cParts nt place parts.toList = some ps → i = .bld z ps →
      (∀ d', Instr.fill place zv.cells (parts.map fun q => (q.1, a.eval q.2)).toList = some d' → P.built t (parts.map fun q => (q.1, a.eval q.2)).toList = some d') → Done P o a w B0 w0 ρ H p v u := fun place ps hps hi hb => by
    subst hi
    simp only [evI] at he
    obtain ⟨d, hd, he⟩ := Option.map_eq_some_iff.1 he
    cases he
    obtain ⟨d', k1, k2, k3⟩ := run_fill (ρ := ρ) _ _ _ _ zv.cells (cParts_R hE hps) hd h4 h5
    refine Done.dry hS (v' := .agg d') ?_ ?_
    · have := run_build (P := P) w t (parts.map fun q => (q.1, a.eval q.2)) d' (hb d' (by simpa using k1))
      unfold execOp; rw [hop]; simp [this]
    · have := VR.agg' k2 k3; simpa using this
  cases hu : P.underlying t with
  | none => rw [hu] at hi; cases hi
  | some d =>
    rw [hu] at hi
    cases d <;> simp only [reduceCtorEq] at hi
    case struct fs =>
      obtain ⟨pl, hpl, hi⟩ := Option.bind_eq_some_iff.1 hi
      obtain ⟨ps, hps, rfl⟩ := Option.map_eq_some_iff.1 hi
      refine fin _ ps hps rfl fun d' hd' => ?_
      have hm : fs.toList.mapM (fun f => (P.info? f.type).map fun i => (f.offset, i.size)) = some pl := by rw [allOf_mapM]; exact hpl
      unfold Program.built
      simp only [h1, hu, h2, hm]
      rw [← hd']
      congr 1
      funext i; simp
    case array n et =>
      obtain ⟨i', hi', hi⟩ := Option.bind_eq_some_iff.1 hi
      obtain ⟨ps, hps, rfl⟩ := Option.map_eq_some_iff.1 hi
      refine fin _ ps hps rfl fun d' hd' => ?_
      unfold Program.built
      simp only [h1, hu, h2, hi']
      exact hd'
theorem sim_fld (hE : EnvR ρ nt e a) (hS : Sim B0 w0 ρ H w) {s : TypeId} {x : Operand} {f : Nat} (hop : o.op = .field s x f) {x' : X} (hx : cX nt x = some x') {fs : Array Field} {fd : Field} (hu : P.underlying s = some (.struct fs)) (hf : fs[f]? = some fd) {g : Option Nat} (hg : aggOf P fd.type = some g)
    (he : evI c e H p (.fld fd.offset g x') = some (v, u)) : Done P o a w B0 w0 ρ H p v u := by
  simp only [evI] at he
  split at he
  · rename_i l e1
    obtain ⟨r, hr, he⟩ := Option.map_eq_some_iff.1 he
    cases he
    have h1 := VR.opd hE hx
    rw [e1] at h1
    obtain ⟨m, hx', hl, hs⟩ := agg_of h1
    obtain ⟨v', h3, h4⟩ := run_partV (w := w) hg (cs' := m) hl hs hr
    refine Done.dry hS (v' := v') ?_ h4
    unfold execOp; rw [hop]; simp [Instr.field, run_underlying hu, hf, hx', asAgg, h3]
  · cases he
theorem nat_of {x : V} {n : Nat} {x' : Value} (h : natOf x = some n) (k : VR ρ x x') : ∃ kd i, x' = .int kd i ∧ 0 ≤ i ∧ i.toNat = n := by
  unfold natOf at h
  split at h
  · split at h <;> cases h
    rename_i hi
    exact ⟨_, _, int_of k, hi, rfl⟩
  · cases h
theorem sim_idxA (hE : EnvR ρ nt e a) (hS : Sim B0 w0 ρ H w) {t et : TypeId} {x y : Operand} {n : Nat} (hop : o.op = .index t x y) {x' y' : X} (hx : cX nt x = some x') (hy : cX nt y = some y') (hu : P.underlying t = some (.array n et)) {sz : Nat} (hsz : sizeP P et = some sz) {g : Option Nat} (hg : aggOf P et = some g)
    (he : evI c e H p (.idxA n sz g x' y') = some (v, u)) : Done P o a w B0 w0 ρ H p v u := by
  simp only [evI] at he
  split at he
  · rename_i l e1
    obtain ⟨i, hi, he⟩ := Option.bind_eq_some_iff.1 he
    split at he
    · rename_i hin
      obtain ⟨r, hr, he⟩ := Option.map_eq_some_iff.1 he
      cases he
      have h1 := VR.opd hE hx
      rw [e1] at h1
      obtain ⟨kd, j, h2, h3, h4⟩ := nat_of hi (VR.opd hE hy)
      obtain ⟨m, hx', hl, hs⟩ := agg_of h1
      unfold sizeP at hsz
      obtain ⟨it, hit, hsz⟩ := Option.bind_eq_some_iff.1 hsz
      split at hsz <;> cases hsz
      obtain ⟨v', h5, h6⟩ := run_partV (w := w) hg (cs' := m) hl hs hr
      refine Done.dry hS (v' := v') ?_ h6
      have hc : 0 ≤ j ∧ j < (n : Int) := ⟨h3, by omega⟩
      unfold execOp; rw [hop]; simp [Instr.index, run_underlying hu, hx', h2, asIntOf, hc, run_sizeOf' hit, h4, h5]
    · cases he
  · cases he
theorem sim_idxS (hE : EnvR ρ nt e a) (hS : Sim B0 w0 ρ H w) {t : TypeId} {x y : Operand} (hop : o.op = .index t x y) {x' y' : X} (hx : cX nt x = some x') (hy : cX nt y = some y') (hu : P.underlying t = some .string)
    (he : evI c e H p (.idxS x' y') = some (v, u)) : Done P o a w B0 w0 ρ H p v u := by
  simp only [evI] at he
  split at he
  · rename_i s e1
    obtain ⟨i, hi, he⟩ := Option.bind_eq_some_iff.1 he
    obtain ⟨b, hb, he⟩ := Option.map_eq_some_iff.1 he
    cases he
    have h1 := VR.opd hE hx
    rw [e1] at h1
    obtain ⟨kd, j, h2, h3, h4⟩ := nat_of hi (VR.opd hE hy)
    refine Done.dry hS (v' := .int .u8 b.toNat) ?_ (.int _ _)
    have hlt : i < s.length := (List.getElem?_eq_some_iff.1 hb).1
    have hr := run_index_string (P := P) w t ⟨s.toArray⟩ kd j hu
    rw [dif_pos ⟨h3, by rw [bsize]; omega⟩] at hr
    have hbv : ((⟨s.toArray⟩ : ByteArray)[j.toNat]'(by rw [bsize]; omega)) = b := by
      have : s[j.toNat]? = some b := by rw [h4]; exact hb
      obtain ⟨_, h6⟩ := List.getElem?_eq_some_iff.1 this
      rw [← h6]; rfl
    rw [hbv] at hr
    unfold execOp; rw [hop]; simp [str_of h1, h2, hr]
  · cases he
theorem sim_fadr (hE : EnvR ρ nt e a) (hS : Sim B0 w0 ρ H w) {s : TypeId} {x : Operand} {f : Nat} (hop : o.op = .fieldAddr s x f) {x' : X} (hx : cX nt x = some x') {fs : Array Field} {fd : Field} (hu : P.underlying s = some (.struct fs)) (hf : fs[f]? = some fd) {sz : Nat} (hsz : sizeP P fd.type = some sz)
    (he : evI c e H p (.fadr fd.offset x') = some (v, u)) : Done P o a w B0 w0 ρ H p v u := by
  simp only [evI] at he
  split at he <;> cases he
  rename_i n off e1
  have h1 := VR.opd hE hx
  rw [e1] at h1
  obtain ⟨l, hl, hx'⟩ := ptr_of h1
  unfold sizeP at hsz
  obtain ⟨it, hit, hsz⟩ := Option.bind_eq_some_iff.1 hsz
  split at hsz <;> cases hsz
  rename_i hz
  refine Done.dry hS (v' := .pointer (some ⟨l.blk, l.off + (off + fd.offset), none⟩)) ?_ (.ptr _ hl)
  unfold execOp; rw [hop]; simp [Instr.fieldAt, run_underlying hu, hf, hx', Instr.sureAddr, fieldPlace, run_sizeOf' hit, hz, Addr.add_lit, Nat.add_assoc]
theorem sim_iadrL (hE : EnvR ρ nt e a) (hS : Sim B0 w0 ρ H w) {t et : TypeId} {x y : Operand} (hop : o.op = .indexAddr t x y) {x' y' : X} (hx : cX nt x = some x') (hy : cX nt y = some y') (hu : P.underlying t = some (.slice et)) {sz : Nat} (hsz : sizeP P et = some sz)
    (he : evI c e H p (.iadrL sz x' y') = some (v, u)) : Done P o a w B0 w0 ρ H p v u := by
  simp only [evI] at he
  split at he
  · rename_i n off len _ _ e1
    obtain ⟨i, hi, he⟩ := Option.bind_eq_some_iff.1 he
    split at he <;> cases he
    rename_i hin
    have h1 := VR.opd hE hx
    rw [e1] at h1
    obtain ⟨kd, j, h2, h3, h4⟩ := nat_of hi (VR.opd hE hy)
    obtain ⟨l, cap', ad, hl, hx0, hcc, _, _, hlc, had⟩ := sl_of h1
    have hx' : a.eval x = .slice (some ⟨l.blk, l.off + off, none⟩) len cap' := by rw [hx0, had (by omega)]
    unfold sizeP at hsz
    obtain ⟨it, hit, hsz⟩ := Option.bind_eq_some_iff.1 hsz
    split at hsz <;> cases hsz
    refine Done.dry hS (v' := .pointer (some ⟨l.blk, l.off + (off + i * it.size), none⟩)) ?_ (.ptr _ hl)
    have hcnd : 0 ≤ j ∧ j < (len : Int) := ⟨h3, by omega⟩
    unfold execOp; rw [hop]; simp [Instr.indexAt, run_underlying hu, hx', h2, asIntOf, hcnd, run_sizeOf' hit, h4, Addr.add_lit, Nat.add_assoc]
  · cases he
theorem sim_iadrA (hE : EnvR ρ nt e a) (hS : Sim B0 w0 ρ H w) {t et : TypeId} {n : Nat} {x y : Operand} (hop : o.op = .indexAddr t x y) {x' y' : X} (hx : cX nt x = some x') (hy : cX nt y = some y') (hu : P.underlying t = some (.array n et)) {sz : Nat} (hsz : sizeP P et = some sz)
    (he : evI c e H p (.iadrA n sz x' y') = some (v, u)) : Done P o a w B0 w0 ρ H p v u := by
  simp only [evI] at he
  split at he
  · rename_i nm off e1
    obtain ⟨i, hi, he⟩ := Option.bind_eq_some_iff.1 he
    split at he <;> cases he
    rename_i hin
    have h1 := VR.opd hE hx
    rw [e1] at h1
    obtain ⟨kd, j, h2, h3, h4⟩ := nat_of hi (VR.opd hE hy)
    obtain ⟨l, hl, hx'⟩ := ptr_of h1
    unfold sizeP at hsz
    obtain ⟨it, hit, hsz⟩ := Option.bind_eq_some_iff.1 hsz
    split at hsz <;> cases hsz
    refine Done.dry hS (v' := .pointer (some ⟨l.blk, l.off + (off + i * it.size), none⟩)) ?_ (.ptr _ hl)
    have hcnd : 0 ≤ j ∧ j < (n : Int) := ⟨h3, by omega⟩
    unfold execOp; rw [hop]; simp [Instr.indexAt, run_underlying hu, hx', h2, asIntOf, Instr.sureAddr, hcnd, run_sizeOf' hit, h4, Addr.add_lit, Nat.add_assoc]
  · cases he
end
end Go.Proofs.YtalnnbokmpppjaaAb
