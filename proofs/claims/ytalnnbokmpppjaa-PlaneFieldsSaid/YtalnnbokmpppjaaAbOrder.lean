/- A region in an open order answers the same in every order that its edges allow. -/
import Derived.Test.YtalnnbokmpppjaaAbMono
namespace Go.Proofs.YtalnnbokmpppjaaAb
open Go
set_option linter.unusedVariables false
set_option linter.unusedSimpArgs false

def I.xs : I → List X
  | .mov x | .box x | .load _ x | .nilchk x | .un _ x | .toInt _ x | .s2b x | .b2s x | .i2s x | .idn x | .fadr _ x | .fld _ _ x | .ext x _ | .ifc _ x | .lenS x | .lenL x | .rng x | .nxt x => [x]
  | .pick c a b => [c, a, b]
  | .alloc _ | .lenK _ | .bad => []
  | .bld _ ps => ps.map fun q => q.2.2
  | .bldS _ _ _ _ ps => ps.map fun q => q.2.2
  | .store _ x y | .bin _ _ x y | .iadrL _ x y | .iadrA _ _ x y | .idxS x y | .idxA _ _ _ x y | .app _ _ _ x y | .copy _ x y => [x, y]
  | .mk _ _ _ _ l c => [l, c]
  | .subS x lo hi => x :: (lo.toList ++ hi.toList)
  | .subL _ x lo hi mx => x :: (lo.toList ++ hi.toList ++ mx.toList)
  | .subA _ _ x lo hi mx => x :: (lo.toList ++ hi.toList ++ mx.toList)
  | .clo _ fs cs => fs ++ cs
  | .mm _ xs => xs
  | .call _ xs => xs
  | .callv x xs => x :: xs
def X.ts : X → List Nat
  | .t i => [i]
  | .k _ => []
def I.heapy : I → Bool
  | .mov _ | .pick .. | .bld .. | .nilchk _ | .bin .. | .un .. | .toInt .. | .i2s _ | .idn _ | .subS .. | .subA .. | .fadr .. | .fld .. | .iadrL .. | .iadrA .. | .idxS .. | .idxA .. | .ext .. | .clo .. | .ifc .. | .lenS _ | .lenL _ | .lenK _ | .mm .. => false
  | _ => true
def O.ts (o : O) : List Nat := o.op.xs.flatMap X.ts ++ (match o.guard with | some (t, _) => [t] | none => [])

theorem bnd_congr {e e' : Env} {x : Option X} (h : ∀ y ∈ x.toList, y.ev e = y.ev e') (d : Nat) : bndOf e x d = bndOf e' x d := by
  cases x with
  | none => rfl
  | some x => simp only [bndOf]; rw [h x (by simp)]
theorem map_congr' {e e' : Env} {xs : List X} (h : ∀ y ∈ xs, y.ev e = y.ev e') : xs.map (X.ev e) = xs.map (X.ev e') := List.map_congr_left h
theorem parts_congr {e e' : Env} {ps : List (Nat × Nat × X)} (h : ∀ y ∈ ps.map (fun q => q.2.2), y.ev e = y.ev e') : ps.map (fun q => (q.1, q.2.1, q.2.2.ev e)) = ps.map (fun q => (q.1, q.2.1, q.2.2.ev e')) :=
  List.map_congr_left fun q hq => by rw [h q.2.2 (List.mem_map.2 ⟨q, hq, rfl⟩)]
theorem evI_congr (c : CallF) {e e' : Env} (H : Heap) (p : Nm) (i : I) (h : ∀ x ∈ i.xs, x.ev e = x.ev e') : evI c e H p i = evI c e' H p i := by
  cases i
  case bld z ps => simp only [evI]; rw [parts_congr (by simpa [I.xs] using h)]
  case bldS a b d z ps => simp only [evI]; rw [parts_congr (by simpa [I.xs] using h)]
  case clo f fs cs => simp only [evI]; rw [map_congr' (fun y hy => h y (by simp [I.xs, hy])), map_congr' (fun y hy => h y (by simp [I.xs, hy]))]
  case call f xs => simp only [evI]; rw [map_congr' (fun y hy => h y (by simp [I.xs, hy]))]
  case callv x xs => simp only [evI]; rw [map_congr' (fun y hy => h y (by simp [I.xs, hy])), h x (by simp [I.xs])]
  case mm b xs =>
    cases xs with
    | nil => rfl
    | cons x xs => simp only [evI]; rw [map_congr' (fun y hy => h y (by simp [I.xs, hy])), h x (by simp [I.xs])]
  case subS x lo hi => simp only [evI]; rw [h x (by simp [I.xs]), funext (bnd_congr (x := lo) (fun y hy => h y (by simp [I.xs]; simp at hy; simp [hy]))), funext (bnd_congr (x := hi) (fun y hy => h y (by simp [I.xs]; simp at hy; simp [hy])))]
  case subL z x lo hi mx => simp only [evI]; rw [h x (by simp [I.xs]), funext (bnd_congr (x := lo) (fun y hy => h y (by simp [I.xs]; simp at hy; simp [hy]))), funext (bnd_congr (x := hi) (fun y hy => h y (by simp [I.xs]; simp at hy; simp [hy]))), funext (bnd_congr (x := mx) (fun y hy => h y (by simp [I.xs]; simp at hy; simp [hy])))]
  case subA n z x lo hi mx => simp only [evI]; rw [h x (by simp [I.xs]), funext (bnd_congr (x := lo) (fun y hy => h y (by simp [I.xs]; simp at hy; simp [hy]))), funext (bnd_congr (x := hi) (fun y hy => h y (by simp [I.xs]; simp at hy; simp [hy]))), funext (bnd_congr (x := mx) (fun y hy => h y (by simp [I.xs]; simp at hy; simp [hy])))]
  all_goals
    simp only [I.xs, List.mem_cons, List.not_mem_nil, or_false, forall_eq_or_imp, forall_eq] at h
    first
      | (simp only [evI, h]; done)
      | (obtain ⟨h1, h2, h3⟩ := h; simp only [evI, h1, h2, h3]; done)
      | (obtain ⟨h1, h2⟩ := h; simp only [evI, h1, h2]; done)
      | rfl
theorem wanted_congr {e e' : Env} (g : Option (Nat × Bool)) (h : ∀ t b, g = some (t, b) → e t = e' t) : wantedV e g = wantedV e' g := by
  cases g with
  | none => rfl
  | some q => obtain ⟨t, b⟩ := q; simp only [wantedV]; rw [h t b rfl]
theorem dry_nil {α : Type} {x : Option α} {f : α → V × Upd} (hf : ∀ a, (f a).2 = []) {r : V × Upd} (h : x.map f = some r) : r.2 = [] := by
  obtain ⟨a, _, rfl⟩ := Option.map_eq_some_iff.1 h; exact hf a
theorem evI_dry (c : CallF) (e : Env) (H H1 : Heap) (p : Nm) (i : I) (h : i.heapy = false) : evI c e H p i = evI c e H1 p i ∧ ∀ r, evI c e H p i = some r → r.2 = [] := by
  cases i <;> simp only [I.heapy, reduceCtorEq] at h <;> refine ⟨rfl, fun r hr => ?_⟩ <;> simp only [evI] at hr
  case mov => cases hr; rfl
  case pick => split at hr <;> cases hr; rfl
  case nilchk => split at hr <;> cases hr; rfl
  case toInt => split at hr <;> cases hr; rfl
  case i2s => split at hr <;> cases hr; rfl
  case idn => split at hr <;> cases hr; rfl
  case fadr => split at hr <;> cases hr; rfl
  case clo => cases hr; rfl
  case ifc => cases hr; rfl
  case lenS => split at hr <;> cases hr; rfl
  case lenL => split at hr <;> cases hr <;> rfl
  case lenK => cases hr; rfl
  case bld => exact dry_nil (fun _ => rfl) hr
  case bin => exact dry_nil (fun _ => rfl) hr
  case un => exact dry_nil (fun _ => rfl) hr
  case fld => split at hr <;> first | exact dry_nil (fun _ => rfl) hr | cases hr
  case ext => split at hr <;> first | exact dry_nil (fun _ => rfl) hr | cases hr
  case mm => split at hr <;> first | exact dry_nil (fun _ => rfl) hr | cases hr
  case idxS =>
    split at hr
    · obtain ⟨a, _, h2⟩ := Option.bind_eq_some_iff.1 hr
      exact dry_nil (fun _ => rfl) h2
    · cases hr
  case idxA =>
    split at hr
    · obtain ⟨a, _, h2⟩ := Option.bind_eq_some_iff.1 hr
      split at h2
      · exact dry_nil (fun _ => rfl) h2
      · cases h2
    · cases hr
  case iadrL =>
    split at hr
    · obtain ⟨a, _, h2⟩ := Option.bind_eq_some_iff.1 hr
      split at h2 <;> cases h2; rfl
    · cases hr
  case iadrA =>
    split at hr
    · obtain ⟨a, _, h2⟩ := Option.bind_eq_some_iff.1 hr
      split at h2 <;> cases h2; rfl
    · cases hr
  case subS =>
    split at hr
    · obtain ⟨a, _, h2⟩ := Option.bind_eq_some_iff.1 hr
      obtain ⟨b, _, h3⟩ := Option.bind_eq_some_iff.1 h2
      split at h3 <;> cases h3; rfl
    · cases hr
  case subA =>
    split at hr
    · obtain ⟨a, _, h2⟩ := Option.bind_eq_some_iff.1 hr
      obtain ⟨b, _, h3⟩ := Option.bind_eq_some_iff.1 h2
      obtain ⟨d, _, h4⟩ := Option.bind_eq_some_iff.1 h3
      split at h4 <;> cases h4; rfl
    · cases hr

/-! ### What is asked of a region -/
def preOf (ops : List O) (j : Nat) : Nat := (ops[j]?.map O.pre).getD 0
def ordOK (ops : List O) (i j : Nat) : Bool := i == j || (preOf ops i).testBit j || (preOf ops j).testBit i
def regOK (ops : List O) : Bool :=
  (List.range ops.length).all fun i => match ops[i]? with
    | none => true
    | some o =>
      ((List.range ops.length).all fun j => match ops[j]? with
        | none => true
        | some q =>
          (!o.pre.testBit j || (j < i && (q.pre &&& o.pre) == q.pre)) &&
          (match q.dst with | some t => !(t ∈ o.ts || o.dst == some t) || ordOK ops i j | none => true) &&
          (!(o.iso && q.op.heapy) || ordOK ops i j))
        && decide (o.pre < 2 ^ i)
def dstOf (ops : List O) (j : Nat) : Option Nat := ops[j]?.bind O.dst
def EE (ops : List O) (vals : Nat → V) (e0 : Env) (S : Nat → Bool) : Nat → Env
  | 0 => e0
  | n + 1 => if S n then put (EE ops vals e0 S n) (dstOf ops n) (vals n) else EE ops vals e0 S n
def UU (ups : Nat → Upd) (S : Nat → Bool) : Nat → Upd
  | 0 => []
  | n + 1 => if S n then ups n ++ UU ups S n else UU ups S n

theorem look_append (u v : Upd) (n : Nm) : look (u ++ v) n = match look u n with | some b => some b | none => look v n := by
  induction u with
  | nil => rfl
  | cons q u ih =>
    obtain ⟨m, b⟩ := q
    simp only [List.cons_append, look]
    split
    · rfl
    · exact ih
theorem app_append (H : Heap) (u v : Upd) : app H (u ++ v) = app (app H v) u := by
  funext n
  simp only [app, look_append]
  cases look u n <;> rfl
theorem app_nil (H : Heap) : app H [] = H := rfl
theorem look_mem {u : Upd} {n : Nm} {b : Option Blk} (h : look u n = some b) : (n, b) ∈ u := by
  induction u with
  | nil => cases h
  | cons q u ih =>
    obtain ⟨m, c⟩ := q
    simp only [look] at h
    split at h
    · rename_i hm; cases h; rw [hm]; exact List.mem_cons_self
    · exact List.mem_cons_of_mem _ (ih h)
theorem under_iff {p n : Nm} : under p n = true ↔ p <:+ n := by unfold under; exact List.isSuffixOf_iff_suffix
theorem under_two {i j : Nat} {p n : Nm} (h : under (i :: p) n = true) (k : under (j :: p) n = true) : i = j := by
  rw [under_iff] at h k
  have := List.suffix_of_suffix_length_le h k (by simp)
  have := this.eq_of_length (by simp)
  exact (List.cons.inj this).1
theorem under_tail {i : Nat} {p n : Nm} (h : under (i :: p) n = true) : under p n = true := by
  rw [under_iff] at h ⊢
  exact (List.suffix_cons i p).trans h

section
variable {call : CallF} {H : Heap} {p : Nm} {ops : List O} {e0 : Env}
/-- the state behind the first k operations -/
def stepD (call : CallF) (H : Heap) (p : Nm) (o : O) (i : Nat) (s : Env × List (Nat × Upd)) : Option (Env × List (Nat × Upd)) :=
  if wantedV s.1 o.guard then
    (evI call s.1 (app H (sel o.pre s.2)) (i :: p) o.op).bind fun r =>
      if quiet (i :: p) r.2 || (o.iso && tidy (app H (sel o.pre s.2)) (i :: p) r.2) then some (put s.1 o.dst r.1, (i, r.2) :: s.2) else none
  else some (put s.1 o.dst undefV, s.2)
def stD (call : CallF) (H : Heap) (p : Nm) (ops : List O) (e0 : Env) : Nat → Option (Env × List (Nat × Upd))
  | 0 => some (e0, [])
  | k + 1 => (stD call H p ops e0 k).bind fun s => match ops[k]? with | some o => stepD call H p o k s | none => some s
theorem regD_cons (o : O) (os : List O) (i : Nat) (s : Env × List (Nat × Upd)) : regD call H p i (o :: os) s.1 s.2 = (stepD call H p o i s).bind fun s1 => regD call H p (i + 1) os s1.1 s1.2 := by
  rw [regD, stepD]
  split
  · rw [Option.bind_assoc]
    congr 1; funext r
    split <;> rfl
  · rfl
theorem regD_stD : ∀ (os pre : List O) (s : Env × List (Nat × Upd)) r, ops = pre ++ os → stD call H p ops e0 pre.length = some s → regD call H p pre.length os s.1 s.2 = some r → stD call H p ops e0 ops.length = some r
  | [], pre, s, r, hp, hs, h => by
    rw [hp]; simp only [List.append_nil]; rw [hp, List.append_nil] at hs; rw [hs]; exact h
  | o :: os, pre, s, r, hp, hs, h => by
    rw [regD_cons] at h
    obtain ⟨s1, h1, h2⟩ := Option.bind_eq_some_iff.1 h
    refine regD_stD os (pre ++ [o]) s1 r (by rw [hp]; simp) ?_ (by simpa using h2)
    simp only [List.length_append, List.length_singleton]
    unfold stD
    rw [hs, Option.bind_some, hp]
    simp only [List.getElem?_append_right (Nat.le_refl _), Nat.sub_self, List.getElem?_cons_zero]
    exact h1
/-- what operation i gives -/
noncomputable def rsD (call : CallF) (H : Heap) (p : Nm) (ops : List O) (e0 : Env) (i : Nat) : V × Upd :=
  match stD call H p ops e0 i, ops[i]? with
  | some s, some o => if wantedV s.1 o.guard then (evI call s.1 (app H (sel o.pre s.2)) (i :: p) o.op).getD (undefV, []) else (undefV, [])
  | _, _ => (undefV, [])
theorem stD_some {n k : Nat} {r} (h : stD call H p ops e0 n = some r) (hk : k ≤ n) : ∃ s, stD call H p ops e0 k = some s := by
  induction n generalizing r with
  | zero => obtain rfl : k = 0 := by omega
            exact ⟨r, h⟩
  | succ n ih =>
    by_cases e : k = n + 1
    · rw [e]; exact ⟨r, h⟩
    · unfold stD at h
      obtain ⟨s, hs, _⟩ := Option.bind_eq_some_iff.1 h
      exact ih hs (by omega)
/-- the facts of operation i in the text's order -/
theorem rsD_step {i : Nat} {o : O} {s s1} (ho : ops[i]? = some o) (hs : stD call H p ops e0 i = some s) (h1 : stD call H p ops e0 (i + 1) = some s1) :
    (if wantedV s.1 o.guard then evI call s.1 (app H (sel o.pre s.2)) (i :: p) o.op = some (rsD call H p ops e0 i) ∧ (quiet (i :: p) (rsD call H p ops e0 i).2 || (o.iso && tidy (app H (sel o.pre s.2)) (i :: p) (rsD call H p ops e0 i).2)) = true
      else rsD call H p ops e0 i = (undefV, [])) ∧ s1.1 = put s.1 o.dst (rsD call H p ops e0 i).1 ∧ (s1.2 = (i, (rsD call H p ops e0 i).2) :: s.2 ∨ ((rsD call H p ops e0 i).2 = [] ∧ s1.2 = s.2)) := by
  unfold stD at h1
  rw [hs, Option.bind_some, ho] at h1
  simp only [] at h1
  have hr : rsD call H p ops e0 i = if wantedV s.1 o.guard then (evI call s.1 (app H (sel o.pre s.2)) (i :: p) o.op).getD (undefV, []) else (undefV, []) := by
    unfold rsD; rw [hs, ho]
  unfold stepD at h1
  split at h1
  · rename_i hw
    rw [if_pos hw] at hr
    obtain ⟨q, hq, h2⟩ := Option.bind_eq_some_iff.1 h1
    rw [hq, Option.getD_some] at hr
    split at h2
    · rename_i hc
      cases h2
      rw [if_pos hw, hr]
      exact ⟨⟨hq, hc⟩, rfl, .inl rfl⟩
    · cases h2
  · rename_i hw
    rw [if_neg hw] at hr
    cases h1
    rw [if_neg hw, hr]
    exact ⟨rfl, rfl, .inr ⟨rfl, rfl⟩⟩

/-- S is closed under what its operations wait for -/
def Cl (ops : List O) (S : Nat → Bool) : Prop := ∀ j, S j = true → j < ops.length ∧ ∀ k, (preOf ops j).testBit k = true → S k = true
structure RegH (call : CallF) (H : Heap) (p : Nm) (ops : List O) (e0 : Env) : Prop where
  ok : regOK ops = true
  mono : CLe call call
  fresh : ∀ n, under p n = true → H n = none
  runs : ∃ r, stD call H p ops e0 ops.length = some r

theorem reg_at (hok : regOK ops = true) {i j : Nat} {o q : O} (ho : ops[i]? = some o) (hq : ops[j]? = some q) :
    (o.pre.testBit j = true → j < i ∧ (q.pre &&& o.pre) = q.pre) ∧ (∀ t, q.dst = some t → t ∈ o.ts ∨ o.dst = some t → ordOK ops i j = true) ∧ (o.iso = true → q.op.heapy = true → ordOK ops i j = true) ∧ o.pre < 2 ^ i := by
  unfold regOK at hok
  rw [List.all_eq_true] at hok
  have hi : i < ops.length := (List.getElem?_eq_some_iff.1 ho).1
  have hj : j < ops.length := (List.getElem?_eq_some_iff.1 hq).1
  have h1 := hok i (List.mem_range.2 hi)
  rw [ho] at h1
  simp only [List.all_eq_true, Bool.and_eq_true, decide_eq_true_eq] at h1
  obtain ⟨h1, h0⟩ := h1
  have h2 := h1 j (List.mem_range.2 hj)
  rw [hq] at h2
  simp only [Bool.and_eq_true, Bool.or_eq_true, Bool.not_eq_true', decide_eq_true_eq, beq_iff_eq] at h2
  obtain ⟨⟨h2, h3⟩, h4⟩ := h2
  refine ⟨fun ht => ?_, fun t ht hm => ?_, fun hio hh => ?_, h0⟩
  · rcases h2 with h2 | h2
    · rw [ht] at h2; cases h2
    · exact h2
  · rw [ht] at h3
    simp only [Bool.or_eq_true, Bool.not_eq_true', Bool.or_eq_false_iff, decide_eq_false_iff_not, beq_eq_false_iff_ne] at h3
    rcases h3 with h3 | h3
    · rcases hm with hm | hm
      · exact absurd hm h3.1
      · exact absurd hm h3.2
    · exact h3
  · rcases h4 with h4 | h4
    · rw [hio, hh] at h4; cases h4
    · exact h4
theorem preOf_some {i : Nat} {o : O} (ho : ops[i]? = some o) : preOf ops i = o.pre := by unfold preOf; rw [ho]; rfl
theorem pre_lt (hok : regOK ops = true) {i j : Nat} (h : (preOf ops i).testBit j = true) : j < i := by
  unfold preOf at h
  cases ho : ops[i]? with
  | none => rw [ho] at h; simp at h
  | some o =>
    rw [ho] at h
    have h0 := (reg_at hok ho ho).2.2.2
    by_cases hj : j < i
    · exact hj
    · simp only [Option.map_some, Option.getD_some] at h
      rw [Nat.testBit_lt_two_pow (Nat.lt_of_lt_of_le h0 (Nat.pow_le_pow_right (by omega) (by omega)))] at h
      cases h
theorem pre_trans (hok : regOK ops = true) {i j k : Nat} (h : (preOf ops i).testBit j = true) (h2 : (preOf ops j).testBit k = true) : (preOf ops i).testBit k = true := by
  have hlt := pre_lt hok h
  cases ho : ops[i]? with
  | none => unfold preOf at h; rw [ho] at h; simp at h
  | some o =>
    have hi : i < ops.length := (List.getElem?_eq_some_iff.1 ho).1
    have hq : ops[j]? = some ops[j] := List.getElem?_eq_getElem (by omega)
    rw [preOf_some ho] at h ⊢
    rw [preOf_some hq] at h2
    have := ((reg_at hok ho hq).1 h).2
    rw [← this, Nat.testBit_and] at h2
    exact ((Bool.and_eq_true _ _).mp h2).2
theorem Cl_pre (hok : regOK ops = true) {i : Nat} (hi : i < ops.length) : Cl ops (preOf ops i).testBit := fun j hj => ⟨by have := pre_lt hok hj; omega, fun k hk => pre_trans hok hj hk⟩

theorem EE_all (h : RegH call H p ops e0) : ∀ k s, k ≤ ops.length → stD call H p ops e0 k = some s →
    s.1 = EE ops (fun i => (rsD call H p ops e0 i).1) e0 (fun _ => true) k ∧ (∀ m : Nat, sel m s.2 = UU (fun i => (rsD call H p ops e0 i).2) m.testBit k) ∧ allU s.2 = UU (fun i => (rsD call H p ops e0 i).2) (fun _ => true) k
  | 0, s, _, hs => by cases hs; exact ⟨rfl, fun _ => rfl, rfl⟩
  | k + 1, s, hk, hs => by
    obtain ⟨r, hr⟩ := h.runs
    obtain ⟨s0, h0⟩ := stD_some hr (by omega : k ≤ ops.length)
    obtain ⟨i1, i2, i3⟩ := EE_all h k s0 (by omega) h0
    have ho : ops[k]? = some ops[k] := List.getElem?_eq_getElem (by omega)
    obtain ⟨_, a2, a3⟩ := rsD_step ho h0 hs
    refine ⟨?_, fun m => ?_, ?_⟩
    · rw [a2, i1]; simp only [EE, if_true, dstOf, ho, Option.bind_some]
    · simp only [UU]
      rcases a3 with a3 | ⟨a3, a4⟩
      · rw [a3]; simp only [sel]; rw [i2]
      · rw [a4, i2, a3]; simp
    · simp only [UU, if_true]
      rcases a3 with a3 | ⟨a3, a4⟩
      · rw [a3]; simp only [allU]; rw [i3]
      · rw [a4, i3, a3]; simp
/-- what operation i answers, over what it waits for -/
theorem rs_at (h : RegH call H p ops e0) {i : Nat} {o : O} (ho : ops[i]? = some o) :
    let e := EE ops (fun i => (rsD call H p ops e0 i).1) e0 (fun _ => true) i
    let Hc := app H (UU (fun i => (rsD call H p ops e0 i).2) (preOf ops i).testBit i)
    if wantedV e o.guard then evI call e Hc (i :: p) o.op = some (rsD call H p ops e0 i) ∧ (quiet (i :: p) (rsD call H p ops e0 i).2 || (o.iso && tidy Hc (i :: p) (rsD call H p ops e0 i).2)) = true
      else rsD call H p ops e0 i = (undefV, []) := by
  have hi : i < ops.length := (List.getElem?_eq_some_iff.1 ho).1
  obtain ⟨r, hr⟩ := h.runs
  obtain ⟨s0, h0⟩ := stD_some hr (by omega : i ≤ ops.length)
  obtain ⟨s1, h1⟩ := stD_some hr (by omega : i + 1 ≤ ops.length)
  obtain ⟨i1, i2, _⟩ := EE_all h i s0 (by omega) h0
  have := (rsD_step ho h0 h1).1
  rw [i1, i2, ← preOf_some ho] at this
  exact this
theorem touched (h : RegH call H p ops e0) {i : Nat} {o : O} (ho : ops[i]? = some o) {n : Nm} {b : Option Blk} (hl : look (rsD call H p ops e0 i).2 n = some b) :
    o.op.heapy = true ∧ (under (i :: p) n = true ∨ (o.iso = true ∧ (app H (UU (fun i => (rsD call H p ops e0 i).2) (preOf ops i).testBit i) n).isSome = true)) := by
  have h1 := rs_at h ho
  simp only at h1
  split at h1
  · obtain ⟨h1, h2⟩ := h1
    have hm := look_mem hl
    refine ⟨?_, ?_⟩
    · cases hh : o.op.heapy
      · have := (evI_dry call _ _ (fun _ => none) _ _ hh).2 _ h1
        rw [this] at hl; cases hl
      · rfl
    · rcases (Bool.or_eq_true _ _).mp h2 with h3 | h3
      · unfold quiet at h3; rw [List.all_eq_true] at h3; exact .inl (h3 _ hm)
      · obtain ⟨h3, h4⟩ := (Bool.and_eq_true _ _).mp h3
        unfold tidy at h4; rw [List.all_eq_true] at h4
        rcases (Bool.or_eq_true _ _).mp (h4 _ hm) with h5 | h5
        · exact .inl h5
        · exact .inr ⟨h3, h5⟩
  · rw [h1] at hl; cases hl
theorem there (h : RegH call H p ops e0) : ∀ m, m ≤ ops.length → ∀ M, Cl ops M → ∀ j n, under (j :: p) n = true → app H (UU (fun i => (rsD call H p ops e0 i).2) M m) n ≠ none → M j = true ∧ j < m := by
  intro m
  induction m using Nat.strongRecOn with
  | _ m ih =>
    intro hm M hM j n hu hn
    cases m with
    | zero => exact absurd (h.fresh n (under_tail hu)) hn
    | succ m =>
      simp only [UU] at hn
      have ho : ops[m]? = some ops[m] := List.getElem?_eq_getElem (by omega)
      split at hn
      · rename_i hMm
        rw [app_append] at hn
        cases hl : look (rsD call H p ops e0 m).2 n with
        | none =>
          have : app (app H (UU (fun i => (rsD call H p ops e0 i).2) M m)) (rsD call H p ops e0 m).2 n = app H (UU (fun i => (rsD call H p ops e0 i).2) M m) n := by
            show (match look _ _ with | some b => b | none => _) = _
            rw [hl]
          rw [this] at hn
          have := ih m (by omega) (by omega) M hM j n hu hn
          exact ⟨this.1, by omega⟩
        | some b =>
          rcases (touched h ho hl).2 with h2 | ⟨_, h2⟩
          · have := under_two hu h2
            rw [this]; exact ⟨hMm, by omega⟩
          · have h3 := ih m (by omega) (by omega) _ (Cl_pre h.ok (i := m) (by omega)) j n hu (by intro h0; rw [h0] at h2; cases h2)
            exact ⟨(hM m hMm).2 j h3.1, by omega⟩
      · have := ih m (by omega) (by omega) M hM j n hu hn
        exact ⟨this.1, by omega⟩
theorem app_none {H : Heap} {u : Upd} {n : Nm} (hl : look u n = none) : app H u n = H n := by
  show (match look _ _ with | some b => b | none => _) = _
  rw [hl]
theorem app_some {H : Heap} {u : Upd} {n : Nm} {b : Option Blk} (hl : look u n = some b) : app H u n = b := by
  show (match look _ _ with | some b => b | none => _) = _
  rw [hl]
theorem UU_le (h : RegH call H p ops e0) {M S : Nat → Bool} (hM : Cl ops M) (hMS : ∀ j, M j = true → S j = true)
    (hq : ∀ j n b, j < ops.length → S j = true → M j = false → look (rsD call H p ops e0 j).2 n = some b → under (j :: p) n = true) : ∀ m, m ≤ ops.length →
    Le (app H (UU (fun i => (rsD call H p ops e0 i).2) M m)) (app H (UU (fun i => (rsD call H p ops e0 i).2) S m))
  | 0, _ => Le.refl _
  | m + 1, hm => by
    have ih := UU_le h hM hMS hq m (by omega)
    simp only [UU]
    cases hMm : M m
    · cases hSm : S m
      · simpa using ih
      · simp only [if_true, Bool.false_eq_true, if_false]
        intro n b hb
        rw [app_append]
        cases hl : look (rsD call H p ops e0 m).2 n with
        | none => rw [app_none hl]; exact ih n b hb
        | some c =>
          have := there h m (by omega) M hM m n (hq m n c (by omega) hSm hMm hl) (by rw [hb]; simp)
          omega
    · rw [hMS m hMm]
      simp only [if_true]
      rw [app_append, app_append]
      exact ih.app _
theorem UU_cut {ups : Nat → Upd} {M : Nat → Bool} {i : Nat} (hM : ∀ j, M j = true → j < i) : ∀ n, i ≤ n → UU ups M n = UU ups M i := by
  intro n
  induction n with
  | zero => intro h; obtain rfl : i = 0 := by omega
            rfl
  | succ n ih =>
    intro h
    by_cases e : i = n + 1
    · rw [e]
    · simp only [UU]
      have : M n = false := by cases hc : M n; rfl; have := hM n hc; omega
      rw [this]; simp; exact ih (by omega)
/-- one more operation, in whatever state its fellows are -/
theorem reg_step (h : RegH call H p ops e0) {S : Nat → Bool} (hS : Cl ops S) {i : Nat} {o : O} (ho : ops[i]? = some o) (hSi : S i = false) (hpre : ∀ k, (preOf ops i).testBit k = true → S k = true) :
    let vals := fun i => (rsD call H p ops e0 i).1
    let ups := fun i => (rsD call H p ops e0 i).2
    (if wantedV (EE ops vals e0 S ops.length) o.guard then evI call (EE ops vals e0 S ops.length) (app H (UU ups S ops.length)) (i :: p) o.op = some (vals i, ups i) else vals i = undefV ∧ ups i = []) ∧
    EE ops vals e0 (fun j => S j || j == i) ops.length = put (EE ops vals e0 S ops.length) o.dst (vals i) ∧
    app H (UU ups (fun j => S j || j == i) ops.length) = app (app H (UU ups S ops.length)) (ups i) := by
  intro vals ups
  have hi : i < ops.length := (List.getElem?_eq_some_iff.1 ho).1
  have ordS : ∀ j q, ops[j]? = some q → S j = true → ordOK ops i j = true → (preOf ops i).testBit j = true := fun j q hq hj hord => by
    unfold ordOK at hord
    simp only [Bool.or_eq_true, beq_iff_eq] at hord
    rcases hord with (rfl | h1) | h1
    · rw [hSi] at hj; cases hj
    · exact h1
    · have := (hS j hj).2 i h1; rw [hSi] at this; cases this
  -- the temporaries that it looks at
  have henv : ∀ t, (∀ j q, ops[j]? = some q → q.dst = some t → ordOK ops i j = true) → ∀ m, m ≤ ops.length → EE ops vals e0 S m t = EE ops vals e0 (fun _ => true) (min m i) t := by
    intro t hord m
    induction m with
    | zero => intro _; rfl
    | succ m ih =>
      intro hm
      have ih := ih (by omega)
      have hq : ops[m]? = some ops[m] := List.getElem?_eq_getElem (by omega)
      by_cases hmi : m < i
      · rw [Nat.min_eq_left (by omega)] at ih ⊢
        simp only [EE, if_true]
        by_cases hd : dstOf ops m = some t
        · have hd' : ops[m].dst = some t := by simpa [dstOf, hq] using hd
          have h1 := hord m _ hq hd'
          have : S m = true := by
            unfold ordOK at h1
            simp only [Bool.or_eq_true, beq_iff_eq] at h1
            rcases h1 with (h1 | h1) | h1
            · omega
            · exact hpre m h1
            · have := pre_lt h.ok h1; omega
          rw [this, hd]; simp [put, set]
        · have hput : ∀ (e : Env) (v : V), put e (dstOf ops m) v t = e t := fun e v => by
            cases hc : dstOf ops m with
            | none => rfl
            | some d => simp only [put, set]; rw [if_neg (by intro e; apply hd; rw [hc, e])]
          rw [hput]
          split
          · rw [hput]; exact ih
          · exact ih
      · rw [Nat.min_eq_right (by omega)] at ih ⊢
        simp only [EE]
        split
        · rename_i hSm
          have hput : ∀ (e : Env) (v : V), put e (dstOf ops m) v t = e t := fun e v => by
            cases hc : dstOf ops m with
            | none => rfl
            | some d =>
              simp only [put, set]; rw [if_neg]
              intro e; subst e
              have := ordS m _ hq hSm (hord m _ hq (by simpa [dstOf, hq] using hc))
              have := pre_lt h.ok this; omega
          rw [hput]; exact ih
        · exact ih
  have hts : ∀ t, t ∈ o.ts → EE ops vals e0 S ops.length t = EE ops vals e0 (fun _ => true) i t := fun t ht => by
    rw [henv t (fun j q hq hd => (reg_at h.ok ho hq).2.1 t hd (.inl ht)) _ (Nat.le_refl _), Nat.min_eq_right (by omega)]
  have hw : wantedV (EE ops vals e0 S ops.length) o.guard = wantedV (EE ops vals e0 (fun _ => true) i) o.guard := wanted_congr _ fun t b hg => hts t (by unfold O.ts; rw [hg]; simp)
  have hxs : ∀ x ∈ o.op.xs, x.ev (EE ops vals e0 S ops.length) = x.ev (EE ops vals e0 (fun _ => true) i) := fun x hx => by
    cases x with
    | k v => rfl
    | t n => exact hts n (by unfold O.ts; exact List.mem_append_left _ (List.mem_flatMap.2 ⟨_, hx, by simp [X.ts]⟩))
  refine ⟨?_, ?_, ?_⟩
  · have h1 := rs_at h ho
    simp only at h1
    rw [← hw] at h1
    split
    · rename_i hwt
      rw [if_pos hwt] at h1
      rw [evI_congr call _ _ _ hxs]
      cases hh : o.op.heapy
      · rw [(evI_dry call _ _ (app H (UU (fun i => (rsD call H p ops e0 i).2) (preOf ops i).testBit i)) _ _ hh).1]; exact h1.1
      · refine evI_mono h.mono ?_ _ _ _ _ h1.1
        have hcut := UU_cut (ups := ups) (M := (preOf ops i).testBit) (i := i) (fun j hj => pre_lt h.ok hj) ops.length (by omega)
        rw [← hcut]
        refine UU_le h (Cl_pre h.ok hi) hpre (fun j n b hj hSj hMj hl => ?_) _ (Nat.le_refl _)
        have hq : ops[j]? = some ops[j] := List.getElem?_eq_getElem hj
        rcases (touched h hq hl).2 with h2 | ⟨h2, _⟩
        · exact h2
        · have h3 := (reg_at h.ok hq ho).2.2.1 h2 hh
          have : ordOK ops i j = true := by
            unfold ordOK at h3 ⊢
            simp only [Bool.or_eq_true, beq_iff_eq] at h3 ⊢
            rcases h3 with (h3 | h3) | h3
            · exact .inl (.inl h3.symm)
            · exact .inr h3
            · exact .inl (.inr h3)
          rw [ordS j _ hq hSj this] at hMj; cases hMj
    · rename_i hwt
      rw [if_neg hwt] at h1
      exact ⟨congrArg Prod.fst h1, congrArg Prod.snd h1⟩
  · have key : ∀ m, m ≤ ops.length → EE ops vals e0 (fun j => S j || j == i) m = if m ≤ i then EE ops vals e0 S m else put (EE ops vals e0 S m) o.dst (vals i) := by
      intro m
      induction m with
      | zero => intro _; simp [EE]
      | succ m ih =>
        intro hm
        have ih := ih (by omega)
        have hq : ops[m]? = some ops[m] := List.getElem?_eq_getElem (by omega)
        simp only [EE]
        by_cases hmi : m = i
        · subst hmi
          rw [if_neg (show ¬ (m + 1 ≤ m) by omega), ih, if_pos (Nat.le_refl _)]
          simp [hSi, dstOf, ho]
        · have hne : (m == i) = false := by simpa using hmi
          simp only [hne, Bool.or_false]
          by_cases hlt : m < i
          · rw [if_pos (show m + 1 ≤ i by omega)]; rw [ih, if_pos (show m ≤ i by omega)]
          · rw [if_neg (show ¬ (m + 1 ≤ i) by omega), ih, if_neg (show ¬ (m ≤ i) by omega)]
            cases hSm : S m
            · rfl
            · simp only [if_true]
              funext t
              cases hdm : dstOf ops m with
              | none => rfl
              | some d =>
                cases hdi : o.dst with
                | none => rfl
                | some d' =>
                  have : d ≠ d' := by
                    intro e; subst e
                    have := ordS m _ hq hSm ((reg_at h.ok ho hq).2.1 d (by simpa [dstOf, hq] using hdm) (.inr hdi))
                    have := pre_lt h.ok this; omega
                  simp only [put, set]
                  by_cases h1 : t = d
                  · subst h1; simp [this]
                  · simp [h1]
    rw [key _ (Nat.le_refl _), if_neg (by omega)]
  · have key : ∀ m, m ≤ ops.length → app H (UU ups (fun j => S j || j == i) m) = if m ≤ i then app H (UU ups S m) else app (app H (UU ups S m)) (ups i) := by
      intro m
      induction m with
      | zero => intro _; simp [UU]
      | succ m ih =>
        intro hm
        have ih := ih (by omega)
        have hq : ops[m]? = some ops[m] := List.getElem?_eq_getElem (by omega)
        simp only [UU]
        by_cases hmi : m = i
        · subst hmi
          rw [if_neg (show ¬ (m + 1 ≤ m) by omega)]
          simp only [hSi, beq_self_eq_true, Bool.or_true, if_true, Bool.false_eq_true, if_false]
          rw [app_append, ih, if_pos (Nat.le_refl _)]
        · have hne : (m == i) = false := by simpa using hmi
          simp only [hne, Bool.or_false]
          by_cases hlt : m < i
          · rw [if_pos (show m + 1 ≤ i by omega)]
            rw [if_pos (show m ≤ i by omega)] at ih
            split
            · rw [app_append, app_append, ih]
            · exact ih
          · rw [if_neg (show ¬ (m + 1 ≤ i) by omega)]
            rw [if_neg (show ¬ (m ≤ i) by omega)] at ih
            split
            · rename_i hSm
              rw [app_append, app_append, ih]
              funext n
              cases hl : look (ups i) n with
              | none =>
                cases hl2 : look (ups m) n with
                | none => rw [app_none hl2, app_none hl, app_none hl, app_none hl2]
                | some b => rw [app_some hl2, app_none hl, app_some hl2]
              | some c =>
                cases hl2 : look (ups m) n with
                | none => rw [app_none hl2, app_some hl, app_some hl]
                | some b =>
                  exfalso
                  obtain ⟨a1, a2⟩ := touched h ho hl
                  obtain ⟨b1, b2⟩ := touched h hq hl2
                  have nord : ordOK ops i m = true → False := fun hord => by
                    have := pre_lt h.ok (ordS m _ hq hSm hord); omega
                  rcases a2 with a2 | ⟨a2, _⟩
                  · rcases b2 with b2 | ⟨b2, _⟩
                    · exact hmi (under_two b2 a2)
                    · have h3 := (reg_at h.ok hq ho).2.2.1 b2 a1
                      refine nord ?_
                      unfold ordOK at h3 ⊢
                      simp only [Bool.or_eq_true, beq_iff_eq] at h3 ⊢
                      rcases h3 with (h3 | h3) | h3
                      · exact .inl (.inl h3.symm)
                      · exact .inr h3
                      · exact .inl (.inr h3)
                  · exact nord ((reg_at h.ok ho hq).2.2.1 a2 b1)
            · exact ih
    rw [key _ (Nat.le_refl _), if_neg (by omega)]
theorem EE_congr {ops : List O} {vals : Nat → V} {e0 : Env} {S T : Nat → Bool} : ∀ n, (∀ j, j < n → S j = T j) → EE ops vals e0 S n = EE ops vals e0 T n
  | 0, _ => rfl
  | n + 1, h => by simp only [EE]; rw [h n (by omega), EE_congr n fun j hj => h j (by omega)]
theorem UU_congr {ups : Nat → Upd} {S T : Nat → Bool} : ∀ n, (∀ j, j < n → S j = T j) → UU ups S n = UU ups T n
  | 0, _ => rfl
  | n + 1, h => by simp only [UU]; rw [h n (by omega), UU_congr n fun j hj => h j (by omega)]
theorem EE_none (ops : List O) (vals : Nat → V) (e0 : Env) : ∀ n, EE ops vals e0 (fun _ => false) n = e0
  | 0 => rfl
  | n + 1 => by simp only [EE]; exact EE_none ops vals e0 n
theorem UU_none (ups : Nat → Upd) : ∀ n, UU ups (fun _ => false) n = []
  | 0 => rfl
  | n + 1 => by simp only [UU]; exact UU_none ups n
end
end Go.Proofs.YtalnnbokmpppjaaAb
