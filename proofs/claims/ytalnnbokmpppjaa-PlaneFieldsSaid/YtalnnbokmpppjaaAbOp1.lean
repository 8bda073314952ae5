/- The operations that leave the blocks alone. -/
import Derived.Test.YtalnnbokmpppjaaAbCut
import Derived.ChangeKeysEq
import Derived.Laws.StructEq
namespace Go.Proofs.YtalnnbokmpppjaaAb
open Go Go.RowKit
set_option linter.unusedVariables false
set_option linter.unusedSimpArgs false

section
variable {P : Program} {res : Nat → Option Nat} {nt : Nat} {o : Oper} {e : Env} {a : Act} {w : World} {B0 : Nat} {w0 : World} {ρ : Rho} {H : Heap} {p : Nm} {c : CallF} {v : V} {u : Upd}

theorem bool_of {ρ : Rho} {b : Bool} {x : Value} (h : VR ρ (.bool b) x) : x = .bool b := by cases h; rfl
theorem int_of {ρ : Rho} {k : IntKind} {n : Int} {x : Value} (h : VR ρ (.int k n) x) : x = .int k n := by cases h; rfl
theorem str_of {ρ : Rho} {s : List UInt8} {x : Value} (h : VR ρ (.str s) x) : x = .string ⟨s.toArray⟩ := by cases h; rfl

theorem sim_mov (hE : EnvR ρ nt e a) (hS : Sim B0 w0 ρ H w) {x : Operand} (hop : o.op = .move x ∨ o.op = .assign x) {y : X} (hx : cX nt x = some y) (he : evI c e H p (.mov y) = some (v, u)) : Done P o a w B0 w0 ρ H p v u := by
  cases he
  refine Done.dry hS (v' := a.eval x) ?_ (VR.opd hE hx)
  rcases hop with hop | hop <;> unfold execOp <;> rw [hop] <;> rfl
theorem sim_pick (hE : EnvR ρ nt e a) (hS : Sim B0 w0 ρ H w) {x y z : Operand} (hop : o.op = .pick x y z) {x' y' z' : X} (hx : cX nt x = some x') (hy : cX nt y = some y') (hz : cX nt z = some z') (he : evI c e H p (.pick x' y' z') = some (v, u)) : Done P o a w B0 w0 ρ H p v u := by
  simp only [evI] at he
  split at he <;> cases he
  rename_i b hb
  have h1 := VR.opd hE hx
  rw [hb] at h1
  refine Done.dry hS (v' := if b then a.eval y else a.eval z) ?_ ?_
  · unfold execOp; rw [hop]; simp [bool_of h1, asBool]
  · split
    · exact VR.opd hE hy
    · exact VR.opd hE hz

theorem runV {x : Sem Value} {v' : Value} (h : x.run P w = .ok v' w) : (do pure (Next.value (← x)) : Sem Next).run P w = .ok (.value v') w := by
  simp [h]
theorem run_shift_ok {op : BinOp} {k yk : IntKind} {a b : Int} (h : evShift op k a b = some v) : ∃ v', (Op.shift op k a yk b).run P w = .ok v' w ∧ VR ρ v v' := by
  unfold evShift at h
  split at h
  · cases h
  · rename_i hb
    unfold Op.shift
    rw [if_neg hb]
    split at h <;> cases h
    · exact ⟨_, rfl, .int _ _⟩
    · exact ⟨_, rfl, .int _ _⟩
theorem run_int_ok {op : BinOp} {k : IntKind} {a b : Int} (hs : ¬ (op = .shl ∨ op = .shr)) (h : evInt op k a b = some v) (t : TypeId) : ∃ v', (binOp op t (.int k a) (.int k b)).run P w = .ok v' w ∧ VR ρ v v' := by
  cases op <;> simp only [evInt] at h
  case quo => 
    split at h <;> cases h
    rename_i hb
    exact ⟨_, by simp [binOp, Op.intDiv, hb], .int _ _⟩
  case rem => 
    split at h <;> cases h
    rename_i hb
    exact ⟨_, by simp [binOp, Op.intDiv, hb], .int _ _⟩
  case shl => exact absurd (.inl rfl) hs
  case shr => exact absurd (.inr rfl) hs
  case add => cases h; exact ⟨_, by simp [binOp, Op.intArith], .int _ _⟩
  case sub => cases h; exact ⟨_, by simp [binOp, Op.intArith], .int _ _⟩
  case mul => cases h; exact ⟨_, by simp [binOp, Op.intArith], .int _ _⟩
  case and => cases h; exact ⟨_, by simp [binOp, Op.intBits], .int _ _⟩
  case or => cases h; exact ⟨_, by simp [binOp, Op.intBits], .int _ _⟩
  case xor => cases h; exact ⟨_, by simp [binOp, Op.intBits], .int _ _⟩
  case andNot => cases h; exact ⟨_, by simp [binOp, Op.intBits], .int _ _⟩
  all_goals
    cases h
    exact ⟨_, by simp [binOp, Op.intCmp], .bool _⟩
theorem run_str_ok {op : BinOp} {x y : List UInt8} (h : evStr op x y = some v) (t : TypeId) : ∃ v', (binOp op t (.string ⟨x.toArray⟩) (.string ⟨y.toArray⟩)).run P w = .ok v' w ∧ VR ρ v v' := by
  have e1 := ByteArray.toList_mk x
  have e2 := ByteArray.toList_mk y
  cases op <;> simp only [evStr] at h
  case add =>
    split at h <;> cases h
    rename_i hl
    refine ⟨.string ⟨(x ++ y).toArray⟩, ?_, .str _⟩
    have hl' : ¬ ((x.length : Int) + (y.length : Int) > IntKind.i64.max) := by
      have : IntKind.i64.max = 9223372036854775807 := by decide
      rw [this]; omega
    have hcat : (⟨x.toArray⟩ : ByteArray) ++ ⟨y.toArray⟩ = ⟨(x ++ y).toArray⟩ := by
      apply ByteArray.ext
      simp
    simp only [binOp, Op.stringOp]
    rw [if_neg (by simpa [ByteArray.size] using hl'), hcat]; rfl
  all_goals first
    | (cases h; done)
    | (cases h; exact ⟨_, by simp [binOp, Op.stringOp, e1, e2, bytesLess], .bool _⟩)
theorem guard_scalar {op : BinOp} {t : TypeId} {x y : Operand} {a b : Value} (h1 : ∀ x, a ≠ .agg x) (h2 : a ≠ .nilIface ∨ b ≠ .nilIface) : (eqGuard op t x y a b).run P w = .ok () w := by
  cases op <;> first | rfl | skip
  all_goals
    cases a <;> first | rfl | exact absurd rfl (h1 _) | skip
    cases b <;> first | rfl | (rcases h2 with h2 | h2 <;> exact absurd rfl h2)

/-! equality of plain cells -/
theorem eqCells_append : ∀ {k1 k2 : List Nat} {x1 x2 y1 y2 : List V} {b : Bool}, x1.length = k1.length → y1.length = k1.length → eqCells (k1 ++ k2) (x1 ++ x2) (y1 ++ y2) = some b →
    ∃ b1 b2, eqCells k1 x1 y1 = some b1 ∧ eqCells k2 x2 y2 = some b2 ∧ b = (b1 && b2)
  | [], k2, [], x2, [], y2, b, _, _, h => ⟨true, b, rfl, h, by simp⟩
  | k :: k1, k2, x :: x1, x2, y :: y1, y2, b, hx, hy, h => by
    simp only [List.cons_append, eqCells] at h
    obtain ⟨c, hc, h2⟩ := Option.bind_eq_some_iff.1 h
    obtain ⟨d, hd, rfl⟩ := Option.map_eq_some_iff.1 h2
    obtain ⟨b1, b2, h3, h4, rfl⟩ := eqCells_append (by simpa using hx) (by simpa using hy) hd
    exact ⟨c && b1, b2, by simp [eqCells, hc, h3], h4, by rw [Bool.and_assoc]⟩
  | k :: k1, _, [], _, _, _, _, hx, _, _ => by simp at hx
  | [], _, _ :: _, _, _, _, _, hx, _, _ => by simp at hx
  | [], _, [], _, _ :: _, _, _, _, hy, _ => by simp at hy
  | _ :: _, _, _ :: _, _, [], _, _, _, hy, _ => by simp at hy
theorem eqCells_len : ∀ {k : List Nat} {x y : List V} {b : Bool}, eqCells k x y = some b → x.length = k.length ∧ y.length = k.length
  | [], [], [], _, _ => ⟨rfl, rfl⟩
  | k :: ks, x :: xs, y :: ys, b, h => by
    simp only [eqCells] at h
    obtain ⟨c, hc, h2⟩ := Option.bind_eq_some_iff.1 h
    obtain ⟨d, hd, rfl⟩ := Option.map_eq_some_iff.1 h2
    have := eqCells_len hd
    simp [this.1, this.2]
  | [], _ :: _, _, _, h => by simp [eqCells] at h
  | [], [], _ :: _, _, h => by simp [eqCells] at h
  | _ :: _, [], _, _, h => by simp [eqCells] at h
  | _ :: _, _ :: _, [], _, h => by simp [eqCells] at h
/-- a value of type t out of its cells -/
def valOf (P : Program) (t : TypeId) (cs : List Value) : Value :=
  match P.underlying t with
  | some (.struct _) => .agg cs.toArray
  | some (.array _ _) => .agg cs.toArray
  | _ => cs.headD undef
def EqR (P : Program) (w : World) (D : Nat) (t : TypeId) (ks : List Nat) : Prop := ∀ (ρ : Rho) (xs ys : List V) (xs' ys' : List Value) (b : Bool), VRL ρ xs xs' → VRL ρ ys ys' → eqCells ks xs ys = some b →
  (Op.equalIn D t (valOf P t xs') (valOf P t ys')).run P w = .ok b w
theorem run_part_of {t : TypeId} {D : Nat} {ks : List Nat} (hk : plain P D t = some ks) (hn : (P.info? t).map (·.size) = some ks.length) (cs : Array Value) (off : Nat) (hlen : off + ks.length ≤ cs.size) :
    (part t cs off).run P w = .ok (valOf P t ((cs.toList.drop off).take ks.length)) w := by
  cases D with
  | zero => simp [plain] at hk
  | succ D =>
    obtain ⟨i, hi, hsz⟩ := Option.map_eq_some_iff.1 hn
    have agg : (∃ fs, P.underlying t = some (.struct fs)) ∨ (∃ n e, P.underlying t = some (.array n e)) → (part t cs off).run P w = .ok (valOf P t ((cs.toList.drop off).take ks.length)) w := fun h => by
      have hext : cs.extract off (off + i.size) = ((cs.toList.drop off).take ks.length).toArray := by
        apply Array.ext'
        simp [Array.toList_extract, List.extract_eq_take_drop, hsz]
      rcases h with ⟨fs, hu⟩ | ⟨n, e, hu⟩
      · simp [part, isAgg, run_underlying hu, sizeOf, typeInfo, hi, hext, valOf, hu]
      · simp [part, isAgg, run_underlying hu, sizeOf, typeInfo, hi, hext, valOf, hu]
    have sc : ks.length = 1 → (isAgg t).run P w = .ok false w → valOf P t ((cs.toList.drop off).take ks.length) = ((cs.toList.drop off).take ks.length).headD undef → (part t cs off).run P w = .ok (valOf P t ((cs.toList.drop off).take ks.length)) w := fun h1 h2 h3 => by
      have hlt : off < cs.size := by omega
      rw [h3, h1]
      have : ((cs.toList.drop off).take 1).headD undef = cs[off] := by
        rw [List.drop_eq_getElem_cons (by simpa using hlt)]; simp
      rw [this]
      simp [part, h2, hlt]
    unfold plain at hk
    cases hu : P.underlying t with
    | none => rw [hu] at hk; cases hk
    | some d =>
      rw [hu] at hk
      cases d <;> simp only [reduceCtorEq] at hk
      case bool => cases hk; exact sc rfl (by simp [isAgg, run_underlying hu]) (by simp [valOf, hu])
      case int => cases hk; exact sc rfl (by simp [isAgg, run_underlying hu]) (by simp [valOf, hu])
      case string => cases hk; exact sc rfl (by simp [isAgg, run_underlying hu]) (by simp [valOf, hu])
      case struct fs => exact agg (.inl ⟨fs, hu⟩)
      case array n e => exact agg (.inr ⟨n, e, hu⟩)
theorem run_fields_of {D d : Nat} (hIH : ∀ t ks, plain P d t = some ks → EqR P w D t ks) {ρ : Rho} {xs ys : List V} {xs' ys' : Array Value} (hx : VRL ρ xs xs'.toList) (hy : VRL ρ ys ys'.toList) :
    ∀ (fs : List Field) (n ks : List Nat), plainFs P (plain P d) fs n = some ks → ks.length = xs.length → ks.length = ys.length → ∃ k2, ks = n ++ k2 ∧ ∀ b, eqCells k2 (xs.drop n.length) (ys.drop n.length) = some b → (Op.eqFields D xs' ys' fs).run P w = .ok b w
  | [], n, ks, h, hlx, hly => by
    cases h
    refine ⟨[], by simp, fun b hb => ?_⟩
    have h1 : xs.drop n.length = [] := List.drop_eq_nil_of_le (by omega)
    have h2 : ys.drop n.length = [] := List.drop_eq_nil_of_le (by omega)
    rw [h1, h2] at hb
    cases hb
    simp [Op.eqFields]
  | f :: fs, n, ks, h, hlx, hly => by
    unfold plainFs at h
    split at h
    · rename_i hc
      obtain ⟨m, hm, h2⟩ := Option.bind_eq_some_iff.1 h
      split at h2
      · rename_i hsz
        obtain ⟨k2, rfl, hrec⟩ := run_fields_of hIH hx hy fs (n ++ m) ks h2 hlx hly
        refine ⟨m ++ k2, by simp, fun b hb => ?_⟩
        simp only [List.length_append] at hlx hly
        have sx : xs.drop n.length = (xs.drop n.length).take m.length ++ xs.drop (n ++ m).length := by
          rw [List.length_append, ← List.drop_drop, List.take_append_drop]
        have sy : ys.drop n.length = (ys.drop n.length).take m.length ++ ys.drop (n ++ m).length := by
          rw [List.length_append, ← List.drop_drop, List.take_append_drop]
        rw [sx, sy] at hb
        obtain ⟨b1, b2, h3, h4, rfl⟩ := eqCells_append (by simp; omega) (by simp; omega) hb
        have hx1 : xs'.size = xs.length := by have := hx.1; simp at this; omega
        have hy1 : ys'.size = ys.length := by have := hy.1; simp at this; omega
        have p1 := run_part_of (w := w) hm hsz xs' f.offset (by rw [hc.2]; omega)
        have p2 := run_part_of (w := w) hm hsz ys' f.offset (by rw [hc.2]; omega)
        have p3 := hIH f.type m hm ρ _ _ _ _ b1 ((hx.drop n.length).take m.length) ((hy.drop n.length).take m.length) h3
        rw [hc.2] at p1 p2
        simp only [Op.eqFields, hc.1, hc.2, ne_eq, not_false_eq_true, if_true, Sem.run_bind, p1, p2, p3, Result.andThen_ok]
        cases b1
        · simp
        · simpa using hrec b2 h4
      · cases h2
    · cases h
theorem run_items_of {D : Nat} {t : TypeId} {m : List Nat} {d : Nat} (hm : plain P d t = some m) (hsz : (P.info? t).map (·.size) = some m.length) (hIH : EqR P w D t m) {ρ : Rho} {xs ys : List V} {xs' ys' : Array Value} (hx : VRL ρ xs xs'.toList) (hy : VRL ρ ys ys'.toList) :
    ∀ (r i : Nat), (i + r) * m.length = xs.length → (i + r) * m.length = ys.length → ∀ b, eqCells (List.replicate r m).flatten (xs.drop (i * m.length)) (ys.drop (i * m.length)) = some b →
      (Op.eqItems D t (P.cellsOf t) xs' ys' (List.range' i r)).run P w = .ok b w
  | 0, i, hlx, hly, b, hb => by
    have h1 : xs.drop (i * m.length) = [] := List.drop_eq_nil_of_le (by simp at hlx; omega)
    have h2 : ys.drop (i * m.length) = [] := List.drop_eq_nil_of_le (by simp at hly; omega)
    rw [h1, h2] at hb
    cases hb
    simp [Op.eqItems]
  | r + 1, i, hlx, hly, b, hb => by
    have hmul : (i + (r + 1)) * m.length = i * m.length + m.length + r * m.length := by rw [Nat.add_mul, Nat.add_mul, Nat.one_mul]; omega
    have hmul2 : (i + 1) * m.length = i * m.length + m.length := by rw [Nat.add_mul, Nat.one_mul]
    have hmul3 : (i + 1 + r) * m.length = i * m.length + m.length + r * m.length := by rw [Nat.add_mul, Nat.add_mul, Nat.one_mul]
    have hc : P.cellsOf t = m.length := by
      obtain ⟨q, hq, hs⟩ := Option.map_eq_some_iff.1 hsz
      simp [Program.cellsOf, hq, hs]
    have sx : xs.drop (i * m.length) = (xs.drop (i * m.length)).take m.length ++ xs.drop ((i + 1) * m.length) := by
      rw [hmul2, ← List.drop_drop, List.take_append_drop]
    have sy : ys.drop (i * m.length) = (ys.drop (i * m.length)).take m.length ++ ys.drop ((i + 1) * m.length) := by
      rw [hmul2, ← List.drop_drop, List.take_append_drop]
    rw [List.replicate_succ, List.flatten_cons, sx, sy] at hb
    obtain ⟨b1, b2, h3, h4, rfl⟩ := eqCells_append (by simp; omega) (by simp; omega) hb
    have hx1 : xs'.size = xs.length := by have := hx.1; simp at this; omega
    have hy1 : ys'.size = ys.length := by have := hy.1; simp at this; omega
    have p1 := run_part_of (w := w) hm hsz xs' (i * m.length) (by omega)
    have p2 := run_part_of (w := w) hm hsz ys' (i * m.length) (by omega)
    have p3 := hIH ρ _ _ _ _ b1 ((hx.drop (i * m.length)).take m.length) ((hy.drop (i * m.length)).take m.length) h3
    have hrec := run_items_of hm hsz hIH hx hy r (i + 1) (by omega) (by omega) b2 h4
    rw [List.range'_succ]
    simp only [Op.eqItems, hc, Sem.run_bind, p1, p2, p3, Result.andThen_ok]
    cases b1
    · simp
    · rw [hc] at hrec; simpa using hrec
theorem plain_eq : ∀ (d : Nat) (t : TypeId) (ks : List Nat), plain P d t = some ks → ∀ D, d ≤ D → EqR P w D t ks
  | 0, t, ks, h, _, _ => by simp [plain] at h
  | d + 1, t, ks, h, D, hD => by
    obtain ⟨D, rfl⟩ : ∃ D', D = D' + 1 := ⟨D - 1, by omega⟩
    intro ρ xs ys xs' ys' b hx hy hb
    unfold plain at h
    cases hu : P.underlying t with
    | none => rw [hu] at h; cases h
    | some q =>
      rw [hu] at h
      have one : ∀ k, ks = [k] → ∃ x y x' y', xs = [x] ∧ ys = [y] ∧ xs' = [x'] ∧ ys' = [y'] ∧ VR ρ x x' ∧ VR ρ y y' ∧ eqCell k x y = some b := fun k hk => by
        subst hk
        obtain ⟨l1, l2⟩ := eqCells_len hb
        obtain ⟨x, rfl⟩ := List.length_eq_one_iff.1 l1
        obtain ⟨y, rfl⟩ := List.length_eq_one_iff.1 l2
        obtain ⟨x', r1, e1, h1, h2⟩ := hx.head
        obtain ⟨y', r2, e2, h3, h4⟩ := hy.head
        have hr1 : r1 = [] := List.eq_nil_of_length_eq_zero (by have := h2.1; simpa using this.symm)
        have hr2 : r2 = [] := List.eq_nil_of_length_eq_zero (by have := h4.1; simpa using this.symm)
        simp only [eqCells] at hb
        obtain ⟨c, hc, hb⟩ := Option.bind_eq_some_iff.1 hb
        simp at hb
        exact ⟨x, y, x', y', rfl, rfl, by rw [e1, hr1], by rw [e2, hr2], h1, h3, by rw [hc, hb]⟩
      cases q <;> simp only [reduceCtorEq] at h
      case bool =>
        obtain ⟨x, y, x', y', rfl, rfl, rfl, rfl, h1, h2, h3⟩ := one 1 (by cases h; rfl)
        cases x <;> cases y <;> simp only [eqCell, reduceCtorEq, Option.some.injEq] at h3
        rw [bool_of h1, bool_of h2]
        simp only [valOf, hu, List.headD_cons]
        rw [run_equalIn_bool' w D t _ _ hu, h3]
      case int k' =>
        obtain ⟨x, y, x', y', rfl, rfl, rfl, rfl, h1, h2, h3⟩ := one 2 (by cases h; rfl)
        cases x <;> cases y <;> simp only [eqCell, reduceCtorEq] at h3
        split at h3 <;> cases h3
        rename_i hk; subst hk
        rw [int_of h1, int_of h2]
        simp only [valOf, hu, List.headD_cons]
        rw [run_equalIn_int w D t _ _ _ _ hu]
      case string =>
        obtain ⟨x, y, x', y', rfl, rfl, rfl, rfl, h1, h2, h3⟩ := one 3 (by cases h; rfl)
        cases x <;> cases y <;> simp only [eqCell, reduceCtorEq, Option.some.injEq] at h3
        rw [str_of h1, str_of h2]
        simp only [valOf, hu, List.headD_cons]
        rw [run_equalIn_string w D t _ _ hu, ← h3]
        simp
      case struct fs =>
        split at h
        · cases h
        · rename_i hst
          have hf : P.fieldsOf t = fs := by simp [Program.fieldsOf, hu]
          simp only [valOf, hu]
          rw [run_equalIn_struct w D t _ _ (by rw [hf]; exact hu) (by simpa using hst), hf]
          obtain ⟨l1, l2⟩ := eqCells_len hb
          obtain ⟨k2, h1, h2⟩ := run_fields_of (P := P) (w := w) (D := D) (d := d) (fun t ks hk => plain_eq d t ks hk D (by omega)) (xs := xs) (ys := ys) (xs' := xs'.toArray) (ys' := ys'.toArray) (by simpa using hx) (by simpa using hy) fs.toList [] ks h l1.symm l2.symm
          exact h2 b (by simp at h1; subst h1; simpa using hb)
      case array n et =>
        obtain ⟨m, hm, h2⟩ := Option.bind_eq_some_iff.1 h
        split at h2
        · rename_i hsz
          cases h2
          obtain ⟨q, hq, hs⟩ := Option.map_eq_some_iff.1 hsz
          simp only [valOf, hu]
          rw [run_equalIn_array w D _ _ hu hq, List.range_eq_range']
          obtain ⟨l1, l2⟩ := eqCells_len hb
          exact run_items_of hm hsz (plain_eq d et m hm D (by omega)) (xs := xs) (ys := ys) (by simpa using hx) (by simpa using hy) n 0 (by rw [l1]; simp) (by rw [l2]; simp) b (by simpa using hb)
        · cases h2
end
end Go.Proofs.YtalnnbokmpppjaaAb
