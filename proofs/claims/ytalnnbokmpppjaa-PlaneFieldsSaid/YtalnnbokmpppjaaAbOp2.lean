/- More operations that leave the blocks alone. -/
import Derived.Test.YtalnnbokmpppjaaAbOp1
namespace Go.Proofs.YtalnnbokmpppjaaAb
open Go Go.RowKit
set_option linter.unusedVariables false
set_option linter.unusedSimpArgs false

section
variable {P : Program} {res : Nat → Option Nat} {nt : Nat} {o : Oper} {e : Env} {a : Act} {w : World} {B0 : Nat} {w0 : World} {ρ : Rho} {H : Heap} {p : Nm} {c : CallF} {v : V} {u : Upd}

theorem cl_one {t : TypeId} {k : Nat} (h : clOf P t = [k]) (hk : k ≠ 0) (h6 : k ≠ 6) :
    (k = 1 → P.underlying t = some .bool) ∧ (k = 2 → ∃ q, P.underlying t = some (.pointer q)) ∧ (k = 3 → ∃ q, P.underlying t = some (.slice q)) ∧ (k = 4 → ∃ x y z, P.underlying t = some (.func x y z)) ∧ (k = 5 → ∃ q, P.underlying t = some (.interface q)) := by
  unfold clOf at h
  cases hu : P.underlying t with
  | none => rw [hu] at h; simp at h; omega
  | some d =>
    rw [hu] at h
    cases d
    case struct fs =>
      simp only at h
      split at h
      · simp at h; omega
      · split at h <;> simp at h <;> omega
    case array n et =>
      simp only at h
      split at h
      · simp at h; omega
      · split at h <;> simp at h <;> omega
    case bool => simp at h; subst h; simp
    case pointer => simp at h; subst h; simp
    case slice => simp at h; subst h; simp
    case func => simp at h; subst h; simp
    case interface => simp at h; subst h; simp
    all_goals (simp at h; omega)
theorem cl_agg {t : TypeId} {ks : List Nat} (h : clOf P t = 6 :: ks) : plain P 60 t = some ks ∧ P.eqGuardType P.depth t = false ∧ ∀ cs, valOf P t cs = .agg cs.toArray := by
  unfold clOf at h
  cases hu : P.underlying t with
  | none => rw [hu] at h; simp at h
  | some d =>
    rw [hu] at h
    cases d <;> simp only [List.cons.injEq, Nat.reduceEqDiff, false_and, reduceCtorEq] at h
    case struct fs =>
      split at h
      · simp at h
      · rename_i hg
        split at h
        · rename_i ks' hk; simp at h; subst h; exact ⟨hk, by simpa using hg, fun cs => by simp [valOf, hu]⟩
        · simp at h
    case array n et =>
      split at h
      · simp at h
      · rename_i hg
        split at h
        · rename_i ks' hk; simp at h; subst h; exact ⟨hk, by simpa using hg, fun cs => by simp [valOf, hu]⟩
        · simp at h
theorem bsize (s : List UInt8) : (⟨s.toArray⟩ : ByteArray).size = s.length := by show s.toArray.size = _; simp
theorem run_evEq {t : TypeId} {x y : V} {x' y' : Value} {b : Bool} (hx : VR ρ x x') (hy : VR ρ y y') (h : evEq (clOf P t) x y = some b) (op : BinOp) (xo yo : Operand) :
    (Op.equal t x' y').run P w = .ok b w ∧ (eqGuard op t xo yo x' y').run P w = .ok () w ∧ (binOp .eql t x' y').run P w = .ok (.bool b) w ∧ (binOp .neq t x' y').run P w = .ok (.bool !b) w := by
  have fin : (Op.equal t x' y').run P w = .ok b w → (binOp .eql t x' y' = (do pure (.bool (← Op.equal t x' y')))) → (binOp .neq t x' y' = (do pure (.bool (!(← Op.equal t x' y'))))) → (eqGuard op t xo yo x' y').run P w = .ok () w →
    (Op.equal t x' y').run P w = .ok b w ∧ (eqGuard op t xo yo x' y').run P w = .ok () w ∧ (binOp .eql t x' y').run P w = .ok (.bool b) w ∧ (binOp .neq t x' y').run P w = .ok (.bool !b) w := fun h1 h2 h3 h4 =>
    ⟨h1, h4, by rw [h2]; simp [h1], by rw [h3]; simp [h1]⟩
  unfold evEq at h
  split at h <;> rename_i hcl
  · cases h; cases hx; cases hy
    have hu := (cl_one hcl (by decide) (by decide)).1 rfl
    exact fin (run_equal_bool w t _ _ hu) rfl rfl (guard_scalar (by simp) (.inl (by simp)))
  · cases hx with
    | @agg _ xa hxl hxs hxh =>
    cases hy with
    | @agg _ ya hyl hys hyh =>
    obtain ⟨h1, h2, h3⟩ := cl_agg hcl
    have h4 := plain_eq (w := w) 60 t _ h1 10000 (by decide) ρ _ _ xa.toList ya.toList b ⟨by simpa using hxl, hxh⟩ ⟨by simpa using hyl, hyh⟩ h
    (try rw [h3, h3] at h4)
    (try simp only [Array.toArray_toList] at h4)
    exact fin (by unfold Op.equal Op.maxDepth; exact h4) rfl rfl (run_eqGuard_agg w op t xo yo _ _ h2)
  · cases h; cases hx; cases hy
    obtain ⟨q, hu⟩ := (cl_one hcl (by decide) (by decide)).2.1 rfl
    exact fin (by show (Op.equalIn (9999 + 1) t _ _).run P w = _; unfold Op.equalIn; simp only [Sem.run_bind, run_underlying hu, Result.andThen_ok]; rfl) rfl rfl (guard_scalar (by simp) (.inl (by simp)))
  · cases h; cases hx; cases hy
    obtain ⟨q, hu⟩ := (cl_one hcl (by decide) (by decide)).2.1 rfl
    exact fin (by show (Op.equalIn (9999 + 1) t _ _).run P w = _; unfold Op.equalIn; simp only [Sem.run_bind, run_underlying hu, Result.andThen_ok]; rfl) rfl rfl (guard_scalar (by simp) (.inl (by simp)))
  · cases h; cases hx; cases hy
    obtain ⟨q, hu⟩ := (cl_one hcl (by decide) (by decide)).2.1 rfl
    exact fin (by show (Op.equalIn (9999 + 1) t _ _).run P w = _; unfold Op.equalIn; simp only [Sem.run_bind, run_underlying hu, Result.andThen_ok]; rfl) rfl rfl (guard_scalar (by simp) (.inl (by simp)))
  · cases h; cases hx; cases hy
    obtain ⟨q, hu⟩ := (cl_one hcl (by decide) (by decide)).2.2.1 rfl
    exact fin (by show (Op.equalIn (9999 + 1) t _ _).run P w = _; unfold Op.equalIn; simp only [Sem.run_bind, run_underlying hu, Result.andThen_ok]; rfl) rfl rfl (guard_scalar (by simp) (.inl (by simp)))
  · rename_i capx _
    split at h
    · cases h
    · rename_i hc0
      cases h
      obtain ⟨q, hu⟩ := (cl_one hcl (by decide) (by decide)).2.2.1 rfl
      cases hx
      obtain ⟨l, cap', ad, _, rfl, hcc, _, _, _, had⟩ := sl_of hy
      rw [had (by omega)] at fin ⊢
      exact fin (by show (Op.equalIn (9999 + 1) t _ _).run P w = _; unfold Op.equalIn; simp only [Sem.run_bind, run_underlying hu, Result.andThen_ok]; rfl) rfl rfl (guard_scalar (by simp) (.inl (by simp)))
  · rename_i capx _
    split at h
    · cases h
    · rename_i hc0
      cases h
      obtain ⟨q, hu⟩ := (cl_one hcl (by decide) (by decide)).2.2.1 rfl
      cases hy
      obtain ⟨l, cap', ad, _, rfl, hcc, _, _, _, had⟩ := sl_of hx
      rw [had (by omega)] at fin ⊢
      exact fin (by show (Op.equalIn (9999 + 1) t _ _).run P w = _; unfold Op.equalIn; simp only [Sem.run_bind, run_underlying hu, Result.andThen_ok]; rfl) rfl rfl (guard_scalar (by simp) (.inl (by simp)))
  · cases h; cases hx; cases hy
    obtain ⟨q, r, s, hu⟩ := (cl_one hcl (by decide) (by decide)).2.2.2.1 rfl
    exact fin (by show (Op.equalIn (9999 + 1) t _ _).run P w = _; unfold Op.equalIn; simp only [Sem.run_bind, run_underlying hu, Result.andThen_ok]; rfl) rfl rfl (guard_scalar (by simp) (.inl (by simp)))
  · cases h; cases hx; cases hy
    obtain ⟨q, r, s, hu⟩ := (cl_one hcl (by decide) (by decide)).2.2.2.1 rfl
    exact fin (by show (Op.equalIn (9999 + 1) t _ _).run P w = _; unfold Op.equalIn; simp only [Sem.run_bind, run_underlying hu, Result.andThen_ok]; rfl) rfl rfl (guard_scalar (by simp) (.inl (by simp)))
  · cases h; cases hx; cases hy
    obtain ⟨q, r, s, hu⟩ := (cl_one hcl (by decide) (by decide)).2.2.2.1 rfl
    exact fin (by show (Op.equalIn (9999 + 1) t _ _).run P w = _; unfold Op.equalIn; simp only [Sem.run_bind, run_underlying hu, Result.andThen_ok]; rfl) rfl rfl (guard_scalar (by simp) (.inl (by simp)))
  · cases h; cases hx; cases hy
    obtain ⟨q, hu⟩ := (cl_one hcl (by decide) (by decide)).2.2.2.2 rfl
    exact fin (by show (Op.equalIn (9999 + 1) t _ _).run P w = _; unfold Op.equalIn; simp only [Sem.run_bind, run_underlying hu, Result.andThen_ok]; rfl) rfl rfl (guard_scalar (by simp) (.inr (by simp)))
  · cases h; cases hx; cases hy
    obtain ⟨q, hu⟩ := (cl_one hcl (by decide) (by decide)).2.2.2.2 rfl
    exact fin (by show (Op.equalIn (9999 + 1) t _ _).run P w = _; unfold Op.equalIn; simp only [Sem.run_bind, run_underlying hu, Result.andThen_ok]; rfl) rfl rfl (guard_scalar (by simp) (.inl (by simp)))
  · cases h
theorem sim_bin (hE : EnvR ρ nt e a) (hS : Sim B0 w0 ρ H w) {x y : Operand} {op : BinOp} {t yt : TypeId} (hop : o.op = .binOp op t x y yt) {x' y' : X} (hx : cX nt x = some x') (hy : cX nt y = some y')
    (he : evI c e H p (.bin op (clOf P t) x' y') = some (v, u)) : Done P o a w B0 w0 ρ H p v u := by
  simp only [evI] at he
  obtain ⟨r, hr, he⟩ := Option.map_eq_some_iff.1 he
  cases he
  have h1 := VR.opd hE hx
  have h2 := VR.opd hE hy
  have fin : ∀ v', (eqGuard op t x y (a.eval x) (a.eval y)).run P w = .ok () w → (binOp op t (a.eval x) (a.eval y)).run P w = .ok v' w → VR ρ v v' → Done P o a w B0 w0 ρ H p v [] := fun v' h3 h4 h5 => by
    refine Done.dry hS (v' := v') ?_ h5
    unfold execOp; rw [hop]; simp [h3, h4]
  generalize hax : a.eval x = ax at *
  generalize hay : a.eval y = ay at *
  unfold evBin at hr
  split at hr
  · rename_i k n k' m e1 e2
    rw [e1] at h1; rw [e2] at h2
    rw [int_of h1, int_of h2] at fin
    split at hr
    · rename_i hsh
      obtain ⟨v', h3, h4⟩ := run_shift_ok (P := P) (w := w) (ρ := ρ) (yk := k') hr
      refine fin v' (guard_scalar (by simp) (.inl (by simp))) ?_ h4
      rcases hsh with rfl | rfl <;> simpa [binOp] using h3
    · rename_i hsh
      split at hr
      · rename_i hk; subst hk
        obtain ⟨v', h3, h4⟩ := run_int_ok (P := P) (w := w) (ρ := ρ) hsh hr t
        exact fin v' (guard_scalar (by simp) (.inl (by simp))) h3 h4
      · cases hr
  · rename_i s1 s2 e1 e2
    rw [e1] at h1; rw [e2] at h2
    rw [str_of h1, str_of h2] at fin
    obtain ⟨v', h3, h4⟩ := run_str_ok (P := P) (w := w) (ρ := ρ) hr t
    exact fin v' (guard_scalar (by simp) (.inl (by simp))) h3 h4
  · split at hr
    · obtain ⟨b, hb, rfl⟩ := Option.map_eq_some_iff.1 hr
      obtain ⟨_, h3, h4, _⟩ := run_evEq (w := w) h1 h2 hb .eql x y
      exact fin _ h3 h4 (.bool _)
    · obtain ⟨b, hb, rfl⟩ := Option.map_eq_some_iff.1 hr
      obtain ⟨_, h3, _, h4⟩ := run_evEq (w := w) h1 h2 hb .neq x y
      exact fin _ h3 h4 (.bool _)
    · cases hr
theorem sim_un (hE : EnvR ρ nt e a) (hS : Sim B0 w0 ρ H w) {x : Operand} {op : UnOp} {t : TypeId} (hop : o.op = .unOp op t x) {x' : X} (hx : cX nt x = some x') (he : evI c e H p (.un op x') = some (v, u)) : Done P o a w B0 w0 ρ H p v u := by
  simp only [evI] at he
  obtain ⟨r, hr, he⟩ := Option.map_eq_some_iff.1 he
  cases he
  have h1 := VR.opd hE hx
  unfold evUn at hr
  split at hr <;> cases hr <;> rename_i e1 <;> rw [e1] at h1
  · refine Done.dry hS (v' := .int _ _) ?_ (.int _ _)
    unfold execOp; rw [hop]; simp [int_of h1, Op.unary, Op.intArith]
  · refine Done.dry hS (v' := .int _ _) ?_ (.int _ _)
    unfold execOp; rw [hop]; simp only [int_of h1, Op.unary, Op.intBits]; rfl
  · refine Done.dry hS (v' := .bool _) ?_ (.bool _)
    unfold execOp; rw [hop]; simp [bool_of h1, Op.unary]
theorem sim_nilchk (hE : EnvR ρ nt e a) (hS : Sim B0 w0 ρ H w) {x : Operand} (hop : o.op = .nilCheck x) {x' : X} (hx : cX nt x = some x') (he : evI c e H p (.nilchk x') = some (v, u)) : Done P o a w B0 w0 ρ H p v u := by
  simp only [evI] at he
  split at he <;> cases he
  rename_i e1
  have h1 := VR.opd hE hx
  rw [e1] at h1
  cases hx' : a.eval x <;> rw [hx'] at h1 <;> cases h1
  rename_i hl
  refine Done.dry hS (v' := _) ?_ (.ptr _ hl)
  unfold execOp; rw [hop]; simp [hx']
theorem sim_conv (hE : EnvR ρ nt e a) (hS : Sim B0 w0 ρ H w) {x : Operand} {src dst : TypeId} (hop : o.op = .convert src dst x) {x' : X} (hx : cX nt x = some x') {s d : TypeDesc} (hs : P.underlying src = some s) (hd : P.underlying dst = some d)
    {v' : Value} (hr : (convert src dst (a.eval x)).run P w = .ok v' w) (hv : VR ρ v v') : Done P o a w B0 w0 ρ H p v [] := by
  refine Done.dry hS (v' := v') ?_ hv
  unfold execOp; rw [hop]; simp [hr]
theorem sim_toInt (hE : EnvR ρ nt e a) (hS : Sim B0 w0 ρ H w) {x : Operand} {src dst : TypeId} (hop : o.op = .convert src dst x) {x' : X} (hx : cX nt x = some x') {k k0 : IntKind} (hs : P.underlying src = some (.int k0)) (hd : P.underlying dst = some (.int k))
    (he : evI c e H p (.toInt k x') = some (v, u)) : Done P o a w B0 w0 ρ H p v u := by
  simp only [evI] at he
  split at he <;> cases he
  rename_i e1
  have h1 := VR.opd hE hx
  rw [e1] at h1
  refine sim_conv hE hS hop hx hs hd (v' := .int k _) ?_ (.int _ _)
  rw [int_of h1]
  simp [convert, run_underlying hs, run_underlying hd, Conv.intToInt]
theorem sim_i2s (hE : EnvR ρ nt e a) (hS : Sim B0 w0 ρ H w) {x : Operand} {src dst : TypeId} (hop : o.op = .convert src dst x) {x' : X} (hx : cX nt x = some x') {k0 : IntKind} (hs : P.underlying src = some (.int k0)) (hd : P.underlying dst = some .string)
    (he : evI c e H p (.i2s x') = some (v, u)) : Done P o a w B0 w0 ρ H p v u := by
  simp only [evI] at he
  split at he <;> cases he
  rename_i k n e1
  have h1 := VR.opd hE hx
  rw [e1] at h1
  refine sim_conv hE hS hop hx hs hd (v' := .string (Utf8.encode n)) ?_ (.str (Utf8.encode n).data.toList)
  rw [int_of h1]
  simp [convert, run_underlying hs, run_underlying hd, Conv.intToString]
theorem sim_idn (hE : EnvR ρ nt e a) (hS : Sim B0 w0 ρ H w) {x : Operand} {src dst : TypeId} (hop : o.op = .convert src dst x) {x' : X} (hx : cX nt x = some x') (hs : P.underlying src = some .string) (hd : P.underlying dst = some .string)
    (he : evI c e H p (.idn x') = some (v, u)) : Done P o a w B0 w0 ρ H p v u := by
  simp only [evI] at he
  split at he <;> cases he
  rename_i e1
  have h1 := VR.opd hE hx
  rw [e1] at h1
  refine sim_conv hE hS hop hx hs hd (v' := .string _) ?_ (.str _)
  rw [str_of h1]
  simp [convert, run_underlying hs, run_underlying hd]
theorem sim_ifc (hE : EnvR ρ nt e a) (hS : Sim B0 w0 ρ H w) {x : Operand} {t : TypeId} (hop : o.op = .makeInterface t x) {x' : X} (hx : cX nt x = some x') {d : TypeDesc} (hd : P.underlying t = some d) (hni : ∀ q, d ≠ .interface q)
    (he : evI c e H p (.ifc t x') = some (v, u)) : Done P o a w B0 w0 ρ H p v u := by
  cases he
  refine Done.dry hS (v' := .iface t (a.eval x)) ?_ (.ifc t (VR.opd hE hx))
  unfold execOp; rw [hop]
  simp only [Instr.makeInterface, Sem.run_bind, run_underlying hd, Result.andThen_ok]
  cases d <;> first | rfl | exact absurd rfl (hni _)
theorem sim_clo (hE : EnvR ρ nt e a) (hS : Sim B0 w0 ρ H w) {f : FuncId} {fs cs : Array Operand} (hop : o.op = .makeFunc (.func f) fs cs) {fs' cs' : List X} (hx : cXs nt fs = some fs') (hy : cXs nt cs = some cs')
    (he : evI c e H p (.clo f fs' cs') = some (v, u)) : Done P o a w B0 w0 ρ H p v u := by
  cases he
  have h1 := VRL.opds hE hx
  have h2 := VRL.opds hE hy
  refine Done.dry hS (v' := .func (.func f) (fs.map a.eval) (cs.map a.eval)) ?_ (.clo f (by simpa using h1.1) h1.2 (by simpa using h2.1) h2.2)
  unfold execOp; rw [hop]; rfl
theorem sim_ext (hE : EnvR ρ nt e a) (hS : Sim B0 w0 ρ H w) {x : Operand} {i : Nat} (hop : o.op = .extract x i) {x' : X} (hx : cX nt x = some x') (he : evI c e H p (.ext x' i) = some (v, u)) : Done P o a w B0 w0 ρ H p v u := by
  simp only [evI] at he
  split at he
  · rename_i l e1
    obtain ⟨r, hr, he⟩ := Option.map_eq_some_iff.1 he
    cases he
    have h1 := VR.opd hE hx
    rw [e1] at h1
    cases hx' : a.eval x <;> rw [hx'] at h1 <;> cases h1
    rename_i m hl hm
    obtain ⟨v', h3, h4⟩ := VRL.get (l := l) (m := m.toList) ⟨by simpa using hl, hm⟩ hr
    refine Done.dry hS (v' := v') ?_ h4
    have h3' : m[i]? = some v' := by simpa using h3
    unfold execOp; rw [hop]; simp [hx', Instr.extract, h3']
  · cases he
theorem run_len {x : Operand} {t : TypeId} {ts : Array TypeId} {xs : Array Operand} (hop : o.op = .call { callee := .builtin .len, args := xs, argTypes := ts }) (hxs : xs.toList = [x]) (hts : ∃ r, ts.toList = t :: r) {v' : Value}
    (hr : ∀ ty, (Builtin.len_ ts ty #[a.eval x]).run P w = .ok v' w) : (execOp a.eval o).run P w = .ok (.value v') w := by
  have : xs = #[x] := by apply Array.ext'; simpa using hxs
  subst this
  unfold execOp; rw [hop]
  simp [resolve, invoke, builtin, hr]
theorem sim_len (hE : EnvR ρ nt e a) (hS : Sim B0 w0 ρ H w) {x : Operand} {t : TypeId} {ts : Array TypeId} {xs : Array Operand} (hop : o.op = .call { callee := .builtin .len, args := xs, argTypes := ts }) (hxs : xs.toList = [x]) (hts : ∃ r, ts.toList = t :: r)
    {x' : X} (hx : cX nt x = some x') {i : I} (hi : (P.underlying t = some .string ∧ i = .lenS x') ∨ (∃ q, P.underlying t = some (.slice q) ∧ i = .lenL x') ∨ (∃ n q, P.underlying t = some (.array n q) ∧ i = .lenK n))
    (he : evI c e H p i = some (v, u)) : Done P o a w B0 w0 ρ H p v u := by
  have h1 := VR.opd hE hx
  have ht0 : ts[0]? = some t := by
    obtain ⟨r, hr⟩ := hts
    have : ts.toList[0]? = some t := by rw [hr]; rfl
    simpa using this
  rcases hi with ⟨hu, rfl⟩ | ⟨q, hu, rfl⟩ | ⟨n, q, hu, rfl⟩
  · simp only [evI] at he
    split at he <;> cases he
    rename_i s e1
    rw [e1] at h1
    refine Done.dry hS (run_len hop hxs hts (v' := .int .i64 s.length) fun ty => ?_) (.int _ _)
    simp [Builtin.len_, ht0, run_underlying hu, str_of h1, goInt, bsize]
  · simp only [evI] at he
    split at he <;> cases he
    · rename_i e1
      rw [e1] at h1
      refine Done.dry hS (run_len hop hxs hts (v' := .int .i64 0) fun ty => ?_) (.int _ _)
      cases hx' : a.eval x <;> rw [hx'] at h1 <;> cases h1
      simp [Builtin.len_, ht0, run_underlying hu, goInt]
    · rename_i len _ _ e1
      rw [e1] at h1
      refine Done.dry hS (run_len hop hxs hts (v' := .int .i64 len) fun ty => ?_) (.int _ _)
      cases hx' : a.eval x <;> rw [hx'] at h1 <;> cases h1
      simp [Builtin.len_, ht0, run_underlying hu, goInt]
  · cases he
    refine Done.dry hS (run_len hop hxs hts (v' := .int .i64 n) fun ty => ?_) (.int _ _)
    simp [Builtin.len_, ht0, run_underlying hu, goInt]
theorem run_mm2 {b : Bool} {x y z : V} {x' y' : Value} (hx : VR ρ x x') (hy : VR ρ y y') (h : mm2 b x y = some z) : ∃ z', (if b then Builtin.max2 x' y' else Builtin.min2 x' y').run P w = .ok z' w ∧ VR ρ z z' := by
  unfold mm2 at h
  split at h
  · split at h <;> cases h
    rename_i hk; subst hk
    rw [int_of hx, int_of hy]
    cases b
    · exact ⟨_, rfl, .int _ _⟩
    · exact ⟨_, rfl, .int _ _⟩
  · cases h
theorem run_mmAll {b : Bool} : ∀ {xs : List V} {xs' : List Value} {x z : V} {x' : Value}, VR ρ x x' → VRL ρ xs xs' → mmAll b x xs = some z → ∃ z', (xs'.foldlM (fun x y => if b then Builtin.max2 x y else Builtin.min2 x y) x').run P w = .ok z' w ∧ VR ρ z z'
  | [], xs', x, z, x', hx, hxs, h => by
    have : xs' = [] := List.eq_nil_of_length_eq_zero (by have := hxs.1; simpa using this.symm)
    subst this
    cases h
    exact ⟨x', rfl, hx⟩
  | y :: ys, xs', x, z, x', hx, hxs, h => by
    obtain ⟨y', ys', rfl, h1, h2⟩ := hxs.head
    simp only [mmAll] at h
    obtain ⟨q, hq, h⟩ := Option.bind_eq_some_iff.1 h
    obtain ⟨q', h3, h4⟩ := run_mm2 (P := P) (w := w) hx h1 hq
    obtain ⟨z', h5, h6⟩ := run_mmAll h4 h2 h
    refine ⟨z', ?_, h6⟩
    simp only [List.foldlM_cons, Sem.run_bind, h3, Result.andThen_ok, h5]
theorem sim_mm (hE : EnvR ρ nt e a) (hS : Sim B0 w0 ρ H w) {b : Bool} {ts : Array TypeId} {xs : Array Operand} (hop : o.op = .call { callee := .builtin (if b then .max else .min), args := xs, argTypes := ts })
    {xs' : List X} (hx : cXs nt xs = some xs') (he : evI c e H p (.mm b xs') = some (v, u)) : Done P o a w B0 w0 ρ H p v u := by
  have h1 := VRL.opds hE hx
  simp only [evI] at he
  split at he
  · cases he
  · rename_i x l
    obtain ⟨r, hr, he⟩ := Option.map_eq_some_iff.1 he
    cases he
    rw [List.map_cons] at h1
    obtain ⟨x', l', hl, h2, h3⟩ := h1.head
    obtain ⟨z', h4, h5⟩ := run_mmAll (P := P) (w := w) h2 h3 hr
    refine Done.dry hS (v' := z') ?_ h5
    unfold execOp; rw [hop]
    cases b
    · simp only [Bool.false_eq_true, if_false, resolve, Sem.run_bind, Sem.run_pure, Result.andThen_ok, invoke, builtin, Builtin.min_, hl] at h4 ⊢
      simp only [h4, Result.andThen_ok]
    · simp only [if_true, resolve, Sem.run_bind, Sem.run_pure, Result.andThen_ok, invoke, builtin, Builtin.max_, hl] at h4 ⊢
      simp only [h4, Result.andThen_ok]
end
end Go.Proofs.YtalnnbokmpppjaaAb
