/- How the functional machine is run on letters: rules for 'simp only'. -/
import Derived.Test.YtalnnbokmpppjaaFmMono
namespace Go.Proofs.YtalnnbokmpppjaaAb
open Go
set_option linter.unusedVariables false
set_option linter.unusedSimpArgs false
/-! ### What a run comes to -/
def W {α : Type} (o : Option α) (Q : α → Prop) : Prop := ∃ a, o = some a ∧ Q a
theorem W_some {α : Type} (a : α) (Q : α → Prop) : W (some a) Q = Q a := propext ⟨fun ⟨_, h, k⟩ => by cases h; exact k, fun h => ⟨a, rfl, h⟩⟩
theorem W.mono {α : Type} {o : Option α} {Q R : α → Prop} (h : W o Q) (k : ∀ a, Q a → R a) : W o R := by obtain ⟨a, e, q⟩ := h; exact ⟨a, e, k a q⟩
theorem W_ite {α : Type} (c : Prop) [Decidable c] (x y : Option α) (Q : α → Prop) : W (if c then x else y) Q = ((c → W x Q) ∧ (¬ c → W y Q)) := by
  by_cases h : c <;> simp [h]
theorem W_bind {α β : Type} {x : Option α} {f : α → Option β} {Q : β → Prop} (h : W x fun a => W (f a) Q) : W (x.bind f) Q := by obtain ⟨a, rfl, k⟩ := h; exact k
theorem W_eq {α : Type} {o : Option α} {a : α} (h : W o fun b => b = a) : o = some a := by obtain ⟨b, e, rfl⟩ := h; exact e
section
variable (c : FCallF) (sg : Sg) (it : FIter)
/-! ### Regions -/
def gT (d : Option Nat) (os : List O) (e : FEnv) (L : FHeap) (n : Nat) : FR → Option FSt
  | some r => fregT c sg os ⟨fput e d r.1, fapp L r.2, n + 1⟩
  | none => none
def gG (d : Option Nat) (op : I) (os : List O) (e : FEnv) (L : FHeap) (n : Nat) (w : Bool) : FV → Option FSt
  | .bool b => if b = w then gT c sg d os e L n (fvI c sg e L (dstD d) n op) else fregT c sg os ⟨fput e d fundef, L, n⟩
  | .tup _ => fregT c sg os ⟨fput e d fundef, L, n⟩
  | _ => none
theorem fregT_nil (s : FSt) : fregT c sg [] s = some s := rfl
theorem fregT_cons (d : Option Nat) (op : I) (m : Nat) (b : Bool) (os : List O) (e : FEnv) (L : FHeap) (n : Nat) : fregT c sg (⟨d, op, none, m, b⟩ :: os) ⟨e, L, n⟩ = gT c sg d os e L n (fvI c sg e L (dstD d) n op) := by
  rw [fregT]
  simp only [fwant, Option.bind_some, if_true]
  cases fvI c sg e L (dstD d) n op <;> rfl
theorem fregT_guard (d : Option Nat) (op : I) (t : Nat) (w : Bool) (m : Nat) (b : Bool) (os : List O) (e : FEnv) (L : FHeap) (n : Nat) : fregT c sg (⟨d, op, some (t, w), m, b⟩ :: os) ⟨e, L, n⟩ = gG c sg d op os e L n w (e t) := by
  rw [fregT]
  simp only [fwant]
  cases h : e t <;> simp only [gG, Option.bind_some, Option.bind_none, Bool.false_eq_true, if_false]
  rename_i x
  cases x <;> cases w <;> simp [gT] <;> cases fvI c sg e L (dstD d) n op <;> rfl
theorem gT_dry (d : Option Nat) (os : List O) (e : FEnv) (L : FHeap) (n : Nat) (v : FV) : gT c sg d os e L n (some (v, [])) = fregT c sg os ⟨fput e d v, L, n + 1⟩ := rfl
theorem gT_some (d : Option Nat) (os : List O) (e : FEnv) (L : FHeap) (n : Nat) (v : FV) (q : Nat × Option FB) (u : FUpd) : gT c sg d os e L n (some (v, q :: u)) = fregT c sg os ⟨fput e d v, fapp L (q :: u), n + 1⟩ := rfl
theorem gG_tt (d : Option Nat) (op : I) (os : List O) (e : FEnv) (L : FHeap) (n : Nat) : gG c sg d op os e L n true (.bool true) = gT c sg d os e L n (fvI c sg e L (dstD d) n op) := rfl
theorem gG_ff (d : Option Nat) (op : I) (os : List O) (e : FEnv) (L : FHeap) (n : Nat) : gG c sg d op os e L n false (.bool false) = gT c sg d os e L n (fvI c sg e L (dstD d) n op) := rfl
theorem gG_tf (d : Option Nat) (op : I) (os : List O) (e : FEnv) (L : FHeap) (n : Nat) : gG c sg d op os e L n true (.bool false) = fregT c sg os ⟨fput e d fundef, L, n⟩ := rfl
theorem gG_ft (d : Option Nat) (op : I) (os : List O) (e : FEnv) (L : FHeap) (n : Nat) : gG c sg d op os e L n false (.bool true) = fregT c sg os ⟨fput e d fundef, L, n⟩ := rfl
theorem gG_un (d : Option Nat) (op : I) (os : List O) (e : FEnv) (L : FHeap) (n : Nat) (w : Bool) (l : List FV) : gG c sg d op os e L n w (.tup l) = fregT c sg os ⟨fput e d fundef, L, n⟩ := rfl
theorem gG_un0 (d : Option Nat) (op : I) (os : List O) (e : FEnv) (L : FHeap) (n : Nat) (w : Bool) : gG c sg d op os e L n w fundef = fregT c sg os ⟨fput e d fundef, L, n⟩ := rfl
/-! open order -/
def wadd (u : FUpd) (i : Nat) (W : List (Nat × Nat)) : List (Nat × Nat) := u.map (fun q => (q.1, i)) ++ W
def hT (i : Nat) (d : Option Nat) (iso : Bool) (os : List O) (W : List (Nat × Nat)) (e : FEnv) (L : FHeap) (n : Nat) : FR → Option FSt
  | some r => if iso || !olds n r.2 then fregD c sg (i + 1) os (wadd r.2 i W) ⟨fput e d r.1, fapp L r.2, n + 1⟩ else none
  | none => none
def hG (i : Nat) (d : Option Nat) (op : I) (m : Nat) (iso : Bool) (os : List O) (W : List (Nat × Nat)) (e : FEnv) (L : FHeap) (n : Nat) (w : Bool) : FV → Option FSt
  | .bool b => if b = w then hT c sg i d iso os W e L n (fvI c sg e (vis W m L) (dstD d) n op) else fregD c sg (i + 1) os W ⟨fput e d fundef, L, n⟩
  | .tup _ => fregD c sg (i + 1) os W ⟨fput e d fundef, L, n⟩
  | _ => none
theorem fregD_nil (i : Nat) (W : List (Nat × Nat)) (s : FSt) : fregD c sg i [] W s = some s := rfl
theorem fregD_cons (i : Nat) (d : Option Nat) (op : I) (m : Nat) (b : Bool) (os : List O) (W : List (Nat × Nat)) (e : FEnv) (L : FHeap) (n : Nat) : fregD c sg i (⟨d, op, none, m, b⟩ :: os) W ⟨e, L, n⟩ = hT c sg i d b os W e L n (fvI c sg e (vis W m L) (dstD d) n op) := by
  rw [fregD]
  simp only [fwant, Option.bind_some, if_true]
  cases fvI c sg e (vis W m L) (dstD d) n op <;> rfl
theorem fregD_guard (i : Nat) (d : Option Nat) (op : I) (t : Nat) (w : Bool) (m : Nat) (b : Bool) (os : List O) (W : List (Nat × Nat)) (e : FEnv) (L : FHeap) (n : Nat) : fregD c sg i (⟨d, op, some (t, w), m, b⟩ :: os) W ⟨e, L, n⟩ = hG c sg i d op m b os W e L n w (e t) := by
  rw [fregD]
  simp only [fwant]
  cases h : e t <;> simp only [hG, Option.bind_some, Option.bind_none, Bool.false_eq_true, if_false]
  rename_i x
  cases x <;> cases w <;> simp [hT] <;> cases fvI c sg e (vis W m L) (dstD d) n op <;> rfl
theorem hT_dry (i : Nat) (d : Option Nat) (b : Bool) (os : List O) (W : List (Nat × Nat)) (e : FEnv) (L : FHeap) (n : Nat) (v : FV) : hT c sg i d b os W e L n (some (v, [])) = fregD c sg (i + 1) os W ⟨fput e d v, L, n + 1⟩ := by
  simp [hT, olds, wadd, fapp_nil]
theorem hT_some (i : Nat) (d : Option Nat) (b : Bool) (os : List O) (W : List (Nat × Nat)) (e : FEnv) (L : FHeap) (n : Nat) (v : FV) (q : Nat × Option FB) (u : FUpd) : hT c sg i d b os W e L n (some (v, q :: u)) = if b || !olds n (q :: u) then fregD c sg (i + 1) os (wadd (q :: u) i W) ⟨fput e d v, fapp L (q :: u), n + 1⟩ else none := rfl
theorem hG_tt (i : Nat) (d : Option Nat) (op : I) (m : Nat) (b : Bool) (os : List O) (W : List (Nat × Nat)) (e : FEnv) (L : FHeap) (n : Nat) : hG c sg i d op m b os W e L n true (.bool true) = hT c sg i d b os W e L n (fvI c sg e (vis W m L) (dstD d) n op) := rfl
theorem hG_ff (i : Nat) (d : Option Nat) (op : I) (m : Nat) (b : Bool) (os : List O) (W : List (Nat × Nat)) (e : FEnv) (L : FHeap) (n : Nat) : hG c sg i d op m b os W e L n false (.bool false) = hT c sg i d b os W e L n (fvI c sg e (vis W m L) (dstD d) n op) := rfl
theorem hG_tf (i : Nat) (d : Option Nat) (op : I) (m : Nat) (b : Bool) (os : List O) (W : List (Nat × Nat)) (e : FEnv) (L : FHeap) (n : Nat) : hG c sg i d op m b os W e L n true (.bool false) = fregD c sg (i + 1) os W ⟨fput e d fundef, L, n⟩ := rfl
theorem hG_ft (i : Nat) (d : Option Nat) (op : I) (m : Nat) (b : Bool) (os : List O) (W : List (Nat × Nat)) (e : FEnv) (L : FHeap) (n : Nat) : hG c sg i d op m b os W e L n false (.bool true) = fregD c sg (i + 1) os W ⟨fput e d fundef, L, n⟩ := rfl
theorem hG_un (i : Nat) (d : Option Nat) (op : I) (m : Nat) (b : Bool) (os : List O) (W : List (Nat × Nat)) (e : FEnv) (L : FHeap) (n : Nat) (w : Bool) (l : List FV) : hG c sg i d op m b os W e L n w (.tup l) = fregD c sg (i + 1) os W ⟨fput e d fundef, L, n⟩ := rfl
theorem hG_un0 (i : Nat) (d : Option Nat) (op : I) (m : Nat) (b : Bool) (os : List O) (W : List (Nat × Nat)) (e : FEnv) (L : FHeap) (n : Nat) (w : Bool) : hG c sg i d op m b os W e L n w fundef = fregD c sg (i + 1) os W ⟨fput e d fundef, L, n⟩ := rfl
theorem vis_nil (m : Nat) (L : FHeap) : vis [] m L = L := rfl
def visB (m : Nat) (x : Option FB) : Option Nat → Option FB
  | none => x
  | some i => if m.testBit i then x else none
theorem vis_at (W : List (Nat × Nat)) (m : Nat) (L : FHeap) (d : Nat) : vis W m L d = visB m (L d) (wlook W d) := by
  unfold vis visB; cases wlook W d <;> rfl
theorem visB_none (m : Nat) (x : Option FB) : visB m x none = x := rfl
theorem visB_some (m i : Nat) (x : Option FB) : visB m x (some i) = if m.testBit i then x else none := rfl
theorem wlook_nil (n : Nat) : wlook [] n = none := rfl
theorem wlook_cons (d i n : Nat) (W : List (Nat × Nat)) : wlook ((d, i) :: W) n = if n = d then some i else wlook W n := rfl
theorem wadd_nil (i : Nat) (W : List (Nat × Nat)) : wadd [] i W = W := rfl
theorem wadd_cons (d i : Nat) (b : Option FB) (u : FUpd) (W : List (Nat × Nat)) : wadd ((d, b) :: u) i W = (d, i) :: wadd u i W := rfl
theorem olds_nil (n : Nat) : olds n [] = false := rfl
theorem olds_cons (n d : Nat) (b : Option FB) (u : FUpd) : olds n ((d, b) :: u) = (oldB n b || olds n u) := rfl
theorem oldB_none (n : Nat) : oldB n none = true := rfl
theorem oldB_row (n g : Nat) (fr tr : Bool) (ik : Option IntKind) (esz : Nat) (cc : List FV) : oldB n (some (.row g fr tr ik esz cc)) = (!(g == n) && !fr) := rfl
theorem oldB_iter (n g : Nat) (s : List UInt8) (p : Nat) : oldB n (some (.iter g s p)) = !(g == n) := rfl
/-! ### Code -/
def gC : Option FSt → Option (Ex × FSt)
  | some s => some (.norm, s)
  | none => none
def gS (b : C) : Option (Ex × FSt) → Option (Ex × FSt)
  | some (.norm, s) => fden c sg it b s
  | r => r
def gB (id : Nat) : Option (Ex × FSt) → Option (Ex × FSt)
  | some (.exit i, s) => if i = id then some (.norm, s) else some (.exit i, s)
  | r => r
def gI (a b : C) (s : FSt) : FV → Option (Ex × FSt)
  | .bool true => fden c sg it a s
  | .bool false => fden c sg it b s
  | _ => none
theorem fden_reg (ops : List O) (s : FSt) : fden c sg it (.reg false ops) s = gC (fregT c sg ops s) := by
  show (fregT c sg ops s).map _ = _
  cases fregT c sg ops s <;> rfl
theorem fden_regD (ops : List O) (s : FSt) : fden c sg it (.reg true ops) s = gC (fregD c sg 0 ops [] s) := by
  show (fregD c sg 0 ops [] s).map _ = _
  cases fregD c sg 0 ops [] s <;> rfl
theorem gC_some (s : FSt) : gC (some s) = some (.norm, s) := rfl
theorem fden_seq (a b : C) (s : FSt) : fden c sg it (.seq a b) s = gS c sg it b (fden c sg it a s) := by
  show (fden c sg it a s).bind _ = _
  cases fden c sg it a s with
  | none => rfl
  | some r => obtain ⟨x, s'⟩ := r; cases x <;> rfl
theorem gS_norm (b : C) (s : FSt) : gS c sg it b (some (.norm, s)) = fden c sg it b s := rfl
theorem gS_exit (b : C) (i : Nat) (s : FSt) : gS c sg it b (some (.exit i, s)) = some (.exit i, s) := rfl
theorem gS_ret (b : C) (s : FSt) : gS c sg it b (some (.ret, s)) = some (.ret, s) := rfl
theorem fden_cond (x : X) (a b : C) (e : FEnv) (L : FHeap) (n : Nat) : fden c sg it (.cond x a b) ⟨e, L, n⟩ = gI c sg it a b ⟨e, L, n⟩ (x.fv e) := by
  rw [fden]
  cases h : x.fv e <;> simp only [gI]
  rename_i t
  cases t <;> rfl
theorem gI_true (a b : C) (s : FSt) : gI c sg it a b s (.bool true) = fden c sg it a s := rfl
theorem gI_false (a b : C) (s : FSt) : gI c sg it a b s (.bool false) = fden c sg it b s := rfl
theorem gI_dec (a b : C) (s : FSt) (p : Prop) [Decidable p] : gI c sg it a b s (.bool (decide p)) = if p then fden c sg it a s else fden c sg it b s := by
  by_cases h : p <;> simp [h, gI]
theorem fden_blk (id : Nat) (a : C) (s : FSt) : fden c sg it (.blk id a) s = gB id (fden c sg it a s) := by
  show (fden c sg it a s).map _ = _
  cases fden c sg it a s with
  | none => rfl
  | some r =>
    obtain ⟨x, s'⟩ := r
    cases x <;> simp only [Option.map_some, gB, reduceCtorEq, if_false, Ex.exit.injEq]
    split <;> rfl
theorem gB_norm (id : Nat) (s : FSt) : gB id (some (.norm, s)) = some (.norm, s) := rfl
theorem gB_ret (id : Nat) (s : FSt) : gB id (some (.ret, s)) = some (.ret, s) := rfl
theorem gB_exit (id i : Nat) (s : FSt) : gB id (some (.exit i, s)) = if i = id then some (.norm, s) else some (.exit i, s) := rfl
theorem fden_skip (s : FSt) : fden c sg it .skip s = some (.norm, s) := rfl
theorem fden_exit (i : Nat) (s : FSt) : fden c sg it (.exit i) s = some (.exit i, s) := rfl
theorem fden_ret (s : FSt) : fden c sg it .ret s = some (.ret, s) := rfl
theorem fden_loop (a : C) (s : FSt) : fden c sg it (.loop a) s = it (fden c sg it a) s := rfl
end
/-! ### A call -/
def gV (ps : List Nat) (L : FHeap) : Option (List FV) → Option (FV × List (Option (List FV)))
  | some vs => fEnd ps L vs
  | none => none
def gF (rs : List R) (ps : List Nat) : Option (Ex × FSt) → Option (FV × List (Option (List FV)))
  | some (.norm, s) => gV ps s.L (fresAll s.e s.L rs)
  | some (.ret, s) => gV ps s.L (fresAll s.e s.L rs)
  | _ => none
theorem gF_norm (rs : List R) (ps : List Nat) (e : FEnv) (L : FHeap) (n : Nat) : gF rs ps (some (.norm, ⟨e, L, n⟩)) = gV ps L (fresAll e L rs) := rfl
theorem gF_ret (rs : List R) (ps : List Nat) (e : FEnv) (L : FHeap) (n : Nat) : gF rs ps (some (.ret, ⟨e, L, n⟩)) = gV ps L (fresAll e L rs) := rfl
theorem gV_some (ps : List Nat) (L : FHeap) (vs : List FV) : gV ps L (some vs) = fEnd ps L vs := rfl
def emptyL : FHeap := fun _ => none
theorem emptyL_at (d : Nat) : emptyL d = none := rfl
theorem fcall_of {ir : Nat → Option F} {sg : Sg} {f : Nat} {nt np : Nat} {c : C} {rs : List R} (hf : ir f = some ⟨nt, np, c, rs⟩) {args : List FV} {r} (hl : args.length = np ∧ np < 4096) {a : List FV} {u : FUpd} (ha : innAll 0 args = some (a, u))
    (h : gF rs (u.map (·.1)) (fden (FC ir sg) sg fit c ⟨fun t => a.getD t fundef, fapp emptyL u, 1⟩) = some r) : FC ir sg f args = some r := by
  refine FC_open hf ?_
  unfold fbody
  rw [if_pos hl, ha, Option.bind_some]
  simp only
  have h' := h
  cases hd : fden (FC ir sg) sg fit c ⟨fun t => a.getD t fundef, fapp (fun _ => none) u, 1⟩ with
  | none => rw [show emptyL = fun _ => none from rfl, hd] at h; cases h
  | some q =>
    rw [show emptyL = fun _ => none from rfl, hd] at h
    obtain ⟨x, s⟩ := q
    have e : ∀ o : Option (List FV), gV (u.map (·.1)) s.L o = o.bind fun vs => fEnd (u.map (·.1)) s.L vs := fun o => by cases o <;> rfl
    cases x with
    | exit i => cases h
    | norm => simp only [gF, e] at h; exact h
    | ret => simp only [gF, e] at h; exact h
theorem fcall_W {ir : Nat → Option F} {sg : Sg} {f : Nat} {nt np : Nat} {c : C} {rs : List R} (hf : ir f = some ⟨nt, np, c, rs⟩) {args : List FV} {r} (hl : args.length = np ∧ np < 4096) {a : List FV} {u : FUpd} (ha : innAll 0 args = some (a, u))
    (h : W (gF rs (u.map (·.1)) (fden (FC ir sg) sg fit c ⟨fun t => a.getD t fundef, fapp emptyL u, 1⟩)) fun x => x = r) : FC ir sg f args = some r := fcall_of hf hl ha (W_eq h)
section
variable {c : FCallF} {sg : Sg} {it : FIter}
theorem W_gF {rs : List R} {ps : List Nat} {Q} {x : Option (Ex × FSt)} (h : W x fun r => W (gF rs ps (some r)) Q) : W (gF rs ps x) Q := by obtain ⟨a, rfl, k⟩ := h; exact k
theorem W_gS {b : C} {Q} {x : Option (Ex × FSt)} (h : W x fun r => W (gS c sg it b (some r)) Q) : W (gS c sg it b x) Q := by obtain ⟨a, rfl, k⟩ := h; exact k
theorem W_gB {id : Nat} {Q} {x : Option (Ex × FSt)} (h : W x fun r => W (gB id (some r)) Q) : W (gB id x) Q := by obtain ⟨a, rfl, k⟩ := h; exact k
/-- what a round must come to -/
def LQ (I : Nat → FEnv → FHeap → Nat → Prop) (k : Nat) (Q : Ex × FSt → Prop) : Ex × FSt → Prop
  | (.norm, s) => ∃ m, m < k ∧ I m s.e s.L s.n
  | r => Q r
theorem LQ_norm (I : Nat → FEnv → FHeap → Nat → Prop) (k : Nat) (Q : Ex × FSt → Prop) (e : FEnv) (L : FHeap) (n : Nat) : LQ I k Q (.norm, ⟨e, L, n⟩) = ∃ m, m < k ∧ I m e L n := rfl
theorem LQ_exit (I : Nat → FEnv → FHeap → Nat → Prop) (k : Nat) (Q : Ex × FSt → Prop) (i : Nat) (s : FSt) : LQ I k Q (.exit i, s) = Q (.exit i, s) := rfl
theorem LQ_ret (I : Nat → FEnv → FHeap → Nat → Prop) (k : Nat) (Q : Ex × FSt → Prop) (s : FSt) : LQ I k Q (.ret, s) = Q (.ret, s) := rfl
end
/-! ### What a piece of code does not write stays as it was -/
def dsts : List O → List Nat
  | [] => []
  | o :: os => match o.dst with | some d => d :: dsts os | none => dsts os
def C.wrs : C → List Nat
  | .reg _ ops => dsts ops
  | .seq a b => a.wrs ++ b.wrs
  | .cond _ a b => a.wrs ++ b.wrs
  | .blk _ a => a.wrs
  | .loop a => a.wrs
  | _ => []
theorem fput_ne (e : FEnv) (d : Option Nat) (v : FV) (t : Nat) (h : d ≠ some t) : fput e d v t = e t := by
  cases d with
  | none => rfl
  | some d => exact if_neg (fun e => h (by rw [e]))
theorem dsts_cons {o : O} {os : List O} {t : Nat} (h : t ∉ dsts (o :: os)) : o.dst ≠ some t ∧ t ∉ dsts os := by
  unfold dsts at h
  cases ho : o.dst with
  | none => rw [ho] at h; exact ⟨by simp, h⟩
  | some d =>
    rw [ho] at h
    simp only [List.mem_cons, not_or] at h
    exact ⟨by simp; exact fun e => h.1 e.symm, h.2⟩
section
variable {c : FCallF} {sg : Sg}
theorem fregT_wrs {t : Nat} : ∀ (os : List O) (s s' : FSt), fregT c sg os s = some s' → t ∉ dsts os → s'.e t = s.e t
  | [], s, s', h, _ => by cases h; rfl
  | o :: os, s, s', h, ht => by
    obtain ⟨h1, h2⟩ := dsts_cons ht
    unfold fregT at h
    obtain ⟨w, _, h⟩ := Option.bind_eq_some_iff.1 h
    split at h
    · obtain ⟨r, _, h⟩ := Option.bind_eq_some_iff.1 h
      rw [fregT_wrs os _ _ h h2]; exact fput_ne _ _ _ _ h1
    · rw [fregT_wrs os _ _ h h2]; exact fput_ne _ _ _ _ h1
theorem fregD_wrs {t : Nat} : ∀ (os : List O) (i : Nat) (W : List (Nat × Nat)) (s s' : FSt), fregD c sg i os W s = some s' → t ∉ dsts os → s'.e t = s.e t
  | [], i, W, s, s', h, _ => by cases h; rfl
  | o :: os, i, W, s, s', h, ht => by
    obtain ⟨h1, h2⟩ := dsts_cons ht
    unfold fregD at h
    obtain ⟨w, _, h⟩ := Option.bind_eq_some_iff.1 h
    split at h
    · obtain ⟨r, _, h⟩ := Option.bind_eq_some_iff.1 h
      split at h
      · rw [fregD_wrs os _ _ _ _ h h2]; exact fput_ne _ _ _ _ h1
      · cases h
    · rw [fregD_wrs os _ _ _ _ h h2]; exact fput_ne _ _ _ _ h1
theorem fden_wrs {t : Nat} : ∀ (a : C) (s : FSt) (r : Ex × FSt), fden c sg fit a s = some r → t ∉ a.wrs → r.2.e t = s.e t
  | .skip, s, r, h, _ => by cases h; rfl
  | .exit _, s, r, h, _ => by cases h; rfl
  | .ret, s, r, h, _ => by cases h; rfl
  | .bad, s, r, h, _ => by cases h
  | .reg false ops, s, r, h, ht => by
    unfold fden at h
    obtain ⟨s', hs, rfl⟩ := Option.map_eq_some_iff.1 h
    exact fregT_wrs ops _ _ hs ht
  | .reg true ops, s, r, h, ht => by
    unfold fden at h
    obtain ⟨s', hs, rfl⟩ := Option.map_eq_some_iff.1 h
    exact fregD_wrs ops _ _ _ _ hs ht
  | .seq a b, s, r, h, ht => by
    unfold fden at h
    simp only [C.wrs, List.mem_append, not_or] at ht
    obtain ⟨q, hq, h⟩ := Option.bind_eq_some_iff.1 h
    have h1 := fden_wrs a _ _ hq ht.1
    split at h
    · rw [fden_wrs b _ _ h ht.2, h1]
    · cases h; exact h1
  | .cond x a b, s, r, h, ht => by
    unfold fden at h
    simp only [C.wrs, List.mem_append, not_or] at ht
    split at h
    · split at h
      · exact fden_wrs a _ _ h ht.1
      · exact fden_wrs b _ _ h ht.2
    · cases h
  | .blk id a, s, r, h, ht => by
    unfold fden at h
    obtain ⟨q, hq, rfl⟩ := Option.map_eq_some_iff.1 h
    have h1 := fden_wrs a _ _ hq ht
    split <;> exact h1
  | .loop a, s, r, h, ht => by
    unfold fden at h
    obtain ⟨n, hn⟩ := fit_some h
    have key : ∀ (n : Nat) (s : FSt) (r : Ex × FSt), fitN n (fden c sg fit a) s = some r → r.2.e t = s.e t := by
      intro n
      induction n with
      | zero => intro s r h; cases h
      | succ n ih =>
        intro s r h
        unfold fitN at h
        obtain ⟨q, hq, h⟩ := Option.bind_eq_some_iff.1 h
        have h1 := fden_wrs a _ _ hq ht
        split at h
        · rw [ih _ _ h, h1]
        · cases h; exact h1
    exact key n s r hn
end
/-- the written slots of e', the others of e -/
def mix : List Nat → FEnv → FEnv → FEnv
  | [], _, e => e
  | w :: ws, e', e => fun t => if t = w then e' t else mix ws e' e t
theorem mix_nil (e' e : FEnv) (t : Nat) : mix [] e' e t = e t := rfl
theorem mix_cons (w : Nat) (ws : List Nat) (e' e : FEnv) (t : Nat) : mix (w :: ws) e' e t = if t = w then e' t else mix ws e' e t := rfl
theorem mix_self (ws : List Nat) (e : FEnv) : mix ws e e = e := by
  induction ws with
  | nil => rfl
  | cons w ws ih => funext t; rw [mix_cons, ih]; simp
theorem mix_in {e' e : FEnv} {t : Nat} : ∀ {ws : List Nat}, t ∈ ws → mix ws e' e t = e' t
  | [], h => by cases h
  | x :: xs, h => by
    rw [mix_cons]
    by_cases hx : t = x
    · rw [if_pos hx]
    · rw [if_neg hx]; exact mix_in ((List.mem_cons.1 h).resolve_left hx)
theorem mix_out {e' e : FEnv} {t : Nat} : ∀ {ws : List Nat}, t ∉ ws → mix ws e' e t = e t
  | [], h => rfl
  | x :: xs, h => by
    simp only [List.mem_cons, not_or] at h
    rw [mix_cons, if_neg h.1]; exact mix_out h.2
theorem mix_of {e' e : FEnv} {ws : List Nat} (h : ∀ t, t ∉ ws → e' t = e t) : mix ws e' e = e' := by
  funext t
  by_cases ht : t ∈ ws
  · exact mix_in ht
  · rw [mix_out ht]; exact (h t ht).symm
theorem W_loop {c : FCallF} {sg : Sg} {a : C} {e : FEnv} {L : FHeap} {n : Nat} {Q : Ex × FSt → Prop} (ws : List Nat) (hw : a.wrs.all ws.elem = true) (I : Nat → FEnv → FHeap → Nat → Prop) (k : Nat) (h0 : I k e L n)
    (hs : ∀ k e' L' n', I k e' L' n' → W (fden c sg fit a ⟨mix ws e' e, L', n'⟩) (LQ I k Q)) : W (fden c sg fit (.loop a) ⟨e, L, n⟩) Q := by
  rw [fden_loop]
  have key : ∀ (k : Nat) (e' : FEnv) (L' : FHeap) (n' : Nat), I k e' L' n' → mix ws e' e = e' → W (fit (fden c sg fit a) ⟨e', L', n'⟩) Q := by
    intro k
    induction k using Nat.strongRecOn with
    | _ k ih =>
      intro e' L' n' hI hm
      obtain ⟨r, hr, hq⟩ := hs k e' L' n' hI
      rw [hm] at hr
      obtain ⟨x, s⟩ := r
      cases x with
      | norm =>
        obtain ⟨m, hlt, hI'⟩ := hq
        have hm' : mix ws s.e e = s.e := mix_of fun t ht => by
          have h1 := fden_wrs (t := t) a _ _ hr (fun hmem => ht (by
            have := List.all_eq_true.1 hw t hmem
            simpa using this))
          rw [h1]
          show e' t = e t
          rw [← hm]; exact mix_out ht
        obtain ⟨r, h1, h2⟩ := ih m hlt s.e s.L s.n hI' hm'
        exact ⟨r, fit_step hr h1, h2⟩
      | exit i => exact ⟨_, fit_last hr (by simp), hq⟩
      | ret => exact ⟨_, fit_last hr (by simp), hq⟩
  exact key k e L n h0 (mix_self ws e)
/-- one round of a loop -/
def OQ (c : FCallF) (sg : Sg) (a : C) (Q : Ex × FSt → Prop) : Ex × FSt → Prop
  | (.norm, s) => W (fden c sg fit (.loop a) s) Q
  | r => Q r
theorem OQ_norm (c : FCallF) (sg : Sg) (a : C) (Q : Ex × FSt → Prop) (s : FSt) : OQ c sg a Q (.norm, s) = W (fden c sg fit (.loop a) s) Q := rfl
theorem OQ_exit (c : FCallF) (sg : Sg) (a : C) (Q : Ex × FSt → Prop) (i : Nat) (s : FSt) : OQ c sg a Q (.exit i, s) = Q (.exit i, s) := rfl
theorem OQ_ret (c : FCallF) (sg : Sg) (a : C) (Q : Ex × FSt → Prop) (s : FSt) : OQ c sg a Q (.ret, s) = Q (.ret, s) := rfl
theorem W_once {c : FCallF} {sg : Sg} {a : C} {s : FSt} {Q : Ex × FSt → Prop} (h : W (fden c sg fit a s) (OQ c sg a Q)) : W (fden c sg fit (.loop a) s) Q := by
  obtain ⟨r, hr, hq⟩ := h
  rw [fden_loop]
  obtain ⟨x, s'⟩ := r
  cases x with
  | norm =>
    obtain ⟨r, h1, h2⟩ := hq
    rw [fden_loop] at h1
    exact ⟨r, fit_step hr h1, h2⟩
  | exit i => exact ⟨_, fit_last hr (by simp), hq⟩
  | ret => exact ⟨_, fit_last hr (by simp), hq⟩
/-! ### Tests -/
section
variable (c : FCallF) (sg : Sg) (it : FIter)
theorem gS_ite (b : C) (p : Prop) [Decidable p] (x y : Option (Ex × FSt)) : gS c sg it b (if p then x else y) = if p then gS c sg it b x else gS c sg it b y := by split <;> rfl
theorem gB_ite (id : Nat) (p : Prop) [Decidable p] (x y : Option (Ex × FSt)) : gB id (if p then x else y) = if p then gB id x else gB id y := by split <;> rfl
theorem gF_ite (rs : List R) (ps : List Nat) (p : Prop) [Decidable p] (x y : Option (Ex × FSt)) : gF rs ps (if p then x else y) = if p then gF rs ps x else gF rs ps y := by split <;> rfl
end
theorem not_dec (c : Prop) [Decidable c] : (!decide c) = decide (¬ c) := by by_cases h : c <;> simp [h]
theorem ibeq (a b : Int) : (a == b) = decide (a = b) := rfl
theorem ibne (a b : Int) : (a != b) = !decide (a = b) := rfl
/-! ### Environments, heaps -/
theorem fv_t (e : FEnv) (i : Nat) : X.fv e (.t i) = e i := rfl
theorem fv_k (e : FEnv) (v : V) : X.fv e (.k v) = ofV v := rfl
theorem fput_some (e : FEnv) (d : Nat) (v : FV) : fput e (some d) v = fset e d v := rfl
theorem fput_none (e : FEnv) (v : FV) : fput e none v = e := rfl
theorem fset_at (e : FEnv) (d t : Nat) (v : FV) : fset e d v t = if t = d then v else e t := rfl
theorem dstD_some (d : Nat) : dstD (some d) = d := rfl
theorem dstD_none : dstD none = 4095 := rfl
theorem fapp_nil_eq (L : FHeap) : fapp L [] = L := rfl
theorem fapp_at (L : FHeap) (d : Nat) (b : Option FB) (u : FUpd) (x : Nat) : fapp L ((d, b) :: u) x = if x = d then b else fapp L u x := by rw [fapp_cons]
theorem drop1_at (L : FHeap) (d x : Nat) : drop1 L d x = if x = d then none else L x := rfl
def rowB (g : Nat) : Option FB → Option (Bool × Bool × Option IntKind × Nat × List FV)
  | some (.row g' fr tr ik esz c) => if g' = g then some (fr, tr, ik, esz, c) else none
  | _ => none
theorem rowOf_eq (L : FHeap) (d g : Nat) : rowOf L d g = rowB g (L d) := by
  unfold rowOf rowB; cases L d with
  | none => rfl
  | some fb => cases fb <;> rfl
theorem rowB_some (g g' : Nat) (fr tr : Bool) (ik : Option IntKind) (esz : Nat) (c : List FV) : rowB g (some (.row g' fr tr ik esz c)) = if g' = g then some (fr, tr, ik, esz, c) else none := rfl
theorem ofV_int (k : IntKind) (n : Int) : ofV (.int k n) = .int k n := rfl
theorem ofV_bool (b : Bool) : ofV (.bool b) = .bool b := rfl
theorem ofV_str (s : List UInt8) : ofV (.str s) = .str s := rfl
theorem ofV_nils : ofV .nils = .emp := rfl
theorem ofV_nilp : ofV .nilp = .nilp := rfl
theorem ofV_nilf : ofV .nilf = .nilf := rfl
theorem ofV_nili : ofV .nili = .nili := rfl
theorem ofV_clo (f : Nat) : ofV (.clo f [] []) = .clo f [] [] := rfl
theorem ofV_agg (l : List V) : ofV (.agg l) = .agg (l.map ofS) := rfl
theorem ofS_int (k : IntKind) (n : Int) : ofS (.int k n) = .int k n := rfl
theorem ofS_bool (b : Bool) : ofS (.bool b) = .bool b := rfl
theorem ofS_str (s : List UInt8) : ofS (.str s) = .str s := rfl
theorem ofS_nils : ofS .nils = .emp := rfl
theorem ofS_nilp : ofS .nilp = .nilp := rfl
theorem ofS_nilf : ofS .nilf = .nilf := rfl
theorem ofS_nili : ofS .nili = .nili := rfl
theorem ofS_clo (f : Nat) : ofS (.clo f [] []) = .clo f [] [] := rfl
/-! ### Operations -/
section
variable (c : FCallF) (sg : Sg) (e : FEnv) (L : FHeap) (d g : Nat)
theorem fv_mov (x : X) : fvI c sg e L d g (.mov x) = some (x.fv e, []) := rfl
theorem fv_pick (a b x : X) : fvI c sg e L d g (.pick x a b) = dryF (fPick (x.fv e) (a.fv e) (b.fv e)) := rfl
theorem fv_alloc (z : List V) : fvI c sg e L d g (.alloc z) = some (.ptr d g 0, [(d, some (.row g false false none 0 (z.map ofS)))]) := rfl
theorem fv_box (x : X) : fvI c sg e L d g (.box x) = (x.fv e).cells.map fun c => (.ptr d g 0, [(d, some (.row g false false none 0 c))]) := rfl
theorem fv_bld (z : List V) (ps : List (Nat × Nat × X)) : fvI c sg e L d g (.bld z ps) = dryF ((fFill (z.map ofS) (ps.map fun q => (q.1, q.2.1, q.2.2.fv e))).map .agg) := rfl
theorem fv_bldS (len esz : Nat) (ik : Option IntKind) (z : List V) (ps : List (Nat × Nat × X)) : fvI c sg e L d g (.bldS len esz ik z ps) = fBldS d g len esz ik (z.map ofS) (ps.map fun q => (q.1, q.2.1, q.2.2.fv e)) := rfl
theorem fv_load (a : Option Nat) (x : X) : fvI c sg e L d g (.load a x) = dryF (fLoad L a (x.fv e)) := rfl
theorem fv_store (sz : Nat) (x y : X) : fvI c sg e L d g (.store sz x y) = fStore L sz (x.fv e) (y.fv e) := rfl
theorem fv_nilchk (x : X) : fvI c sg e L d g (.nilchk x) = dryF (fNil (x.fv e)) := rfl
theorem fv_bin (op : BinOp) (cl : List Nat) (x y : X) : fvI c sg e L d g (.bin op cl x y) = dryF (fBin op cl (x.fv e) (y.fv e)) := rfl
theorem fv_un (op : UnOp) (x : X) : fvI c sg e L d g (.un op x) = dryF (fUn op (x.fv e)) := rfl
theorem fv_toInt (k : IntKind) (x : X) : fvI c sg e L d g (.toInt k x) = dryF (fInt k (x.fv e)) := rfl
def fS2b : FV → Option FV
  | .str s => if s.length ≤ 140737488351232 then some (.bys s) else none
  | _ => none
theorem fv_s2b (x : X) : fvI c sg e L d g (.s2b x) = dryF (fS2b (x.fv e)) := rfl
theorem fv_b2s (x : X) : fvI c sg e L d g (.b2s x) = dryF (fB2s L (x.fv e)) := rfl
def fI2s : FV → Option FV
  | .int _ n => some (.str (Utf8.encode n).data.toList)
  | _ => none
theorem fv_i2s (x : X) : fvI c sg e L d g (.i2s x) = dryF (fI2s (x.fv e)) := rfl
def fIdn : FV → Option FV
  | .str s => some (.str s)
  | _ => none
theorem fv_idn (x : X) : fvI c sg e L d g (.idn x) = dryF (fIdn (x.fv e)) := rfl
theorem fv_mk (esz eb : Nat) (ik : Option IntKind) (z : List V) (l m : X) : fvI c sg e L d g (.mk esz eb ik z l m) = fMk d g esz eb ik (z.map ofS) (l.fv e) (m.fv e) := rfl
theorem fv_subS (x : X) (lo hi : Option X) : fvI c sg e L d g (.subS x lo hi) = dryF (fSubS (x.fv e) (lo.map (X.fv e)) (hi.map (X.fv e))) := rfl
theorem fv_subL (esz : Nat) (x : X) (lo hi mx : Option X) : fvI c sg e L d g (.subL esz x lo hi mx) = dryF (fSubL L esz (x.fv e) (lo.map (X.fv e)) (hi.map (X.fv e)) (mx.map (X.fv e))) := rfl
theorem fv_fadr (o : Nat) (x : X) : fvI c sg e L d g (.fadr o x) = dryF (fFadr o (x.fv e)) := rfl
theorem fv_fld (o : Nat) (a : Option Nat) (x : X) : fvI c sg e L d g (.fld o a x) = dryF (fFld o a (x.fv e)) := rfl
theorem fv_iadrL (esz : Nat) (x i : X) : fvI c sg e L d g (.iadrL esz x i) = dryF (fIadrL L esz (x.fv e) (i.fv e)) := rfl
theorem fv_iadrA (n esz : Nat) (x i : X) : fvI c sg e L d g (.iadrA n esz x i) = dryF (fIadrA n esz (x.fv e) (i.fv e)) := rfl
theorem fv_idxS (x i : X) : fvI c sg e L d g (.idxS x i) = dryF (fIdxS (x.fv e) (i.fv e)) := rfl
theorem fv_idxA (n esz : Nat) (a : Option Nat) (x i : X) : fvI c sg e L d g (.idxA n esz a x i) = dryF (fIdxA n esz a (x.fv e) (i.fv e)) := rfl
theorem fv_ext (x : X) (i : Nat) : fvI c sg e L d g (.ext x i) = dryF (fExt i (x.fv e)) := rfl
theorem fv_clo (f : Nat) (fs cs : List X) : fvI c sg e L d g (.clo f fs cs) = some (.clo f (fs.map (X.fv e)) (cs.map (X.fv e)), []) := rfl
theorem fv_ifc (t : Nat) (x : X) : fvI c sg e L d g (.ifc t x) = some (.ifc t (x.fv e), []) := rfl
theorem fv_lenS (x : X) : fvI c sg e L d g (.lenS x) = dryF (fLenS (x.fv e)) := rfl
theorem fv_lenL (x : X) : fvI c sg e L d g (.lenL x) = dryF (fLenL (x.fv e)) := rfl
theorem fv_lenK (n : Nat) : fvI c sg e L d g (.lenK n) = some (.int .i64 n, []) := rfl
theorem fv_mm (b : Bool) (x : X) (xs : List X) : fvI c sg e L d g (.mm b (x :: xs)) = dryF (fMmAll b (x.fv e) (xs.map (X.fv e))) := rfl
theorem fv_app (esz eb : Nat) (ik : Option IntKind) (x y : X) : fvI c sg e L d g (.app esz eb ik x y) = fApp L d g esz eb ik (x.fv e) (y.fv e) := rfl
theorem fv_copy (esz : Nat) (x y : X) : fvI c sg e L d g (.copy esz x y) = fCopy L esz (x.fv e) (y.fv e) := rfl
theorem fv_call (f : Nat) (xs : List X) : fvI c sg e L d g (.call f xs) = fCall c sg L d g f (xs.map (X.fv e)) := rfl
def fCallv : FV → List FV → FR
  | .clo f fs cs, xs => fCall c sg L d g f (fs ++ xs ++ cs)
  | _, _ => none
theorem fv_callv (x : X) (xs : List X) : fvI c sg e L d g (.callv x xs) = fCallv c sg L d g (x.fv e) (xs.map (X.fv e)) := by
  simp only [fvI]; cases x.fv e <;> rfl
theorem callv_clo (f : Nat) (fs cs xs : List FV) : fCallv c sg L d g (.clo f fs cs) xs = fCall c sg L d g f (fs ++ xs ++ cs) := rfl
def fRng : FV → FR
  | .str s => some (.ptr d g 0, [(d, some (.iter g s 0))])
  | _ => none
theorem fv_rng (x : X) : fvI c sg e L d g (.rng x) = fRng d g (x.fv e) := rfl
theorem fv_nxt (x : X) : fvI c sg e L d g (.nxt x) = fNxt L (x.fv e) := rfl
end
theorem dryF_some' (v : FV) : dryF (some v) = some (v, []) := rfl
theorem pick_b (t : Bool) (a b : FV) : fPick (.bool t) a b = some (if t then a else b) := rfl
theorem pick_tt (a b : FV) : fPick (.bool true) a b = some a := rfl
theorem pick_ff (a b : FV) : fPick (.bool false) a b = some b := rfl
theorem load_ptr (L : FHeap) (a : Option Nat) (d g o : Nat) : fLoad L a (.ptr d g o) = (rowB g (L d)).bind fun r => aggF r.2.2.2.2 o a := by rw [← rowOf_eq]; rfl
theorem load_tp (L : FHeap) (a : Option Nat) (c : List FV) (o : Nat) : fLoad L a (.tp c o) = aggF c o a := rfl
theorem aggF_none (c : List FV) (o : Nat) : aggF c o none = c[o]? := rfl
theorem aggF_some (c : List FV) (o n : Nat) : aggF c o (some n) = if o + n ≤ c.length then some (.agg ((c.drop o).take n)) else none := rfl
theorem store_ptr (L : FHeap) (sz d g o : Nat) (y : FV) : fStore L sz (.ptr d g o) y = y.cells.bind fun w => if w.length = sz then (rowB g (L d)).bind fun r =>
      if r.1 = false ∧ o + sz ≤ r.2.2.2.2.length then
        (if r.2.1 then trees L (w.all FV.leaf) w else some (w, [])).bind fun q =>
          if kindOK r.2.2.1 q.1 ∧ d ∉ q.2 then some (fundef, (d, some (.row g false r.2.1 r.2.2.1 r.2.2.2.1 (over r.2.2.2.2 o q.1))) :: freeze L q.2) else none
      else none
    else none := by simp only [← rowOf_eq]; rfl
theorem nil_ptr (d g o : Nat) : fNil (.ptr d g o) = some (.ptr d g o) := rfl
theorem nil_tp (c : List FV) (o : Nat) : fNil (.tp c o) = some (.tp c o) := rfl
theorem bin_int (op : BinOp) (cl : List Nat) (k k' : IntKind) (a b : Int) : fBin op cl (.int k a) (.int k' b) = if op = .shl ∨ op = .shr then sOf (evShift op k a b) else if k = k' then sOf (evInt op k a b) else none := rfl
theorem bin_str (op : BinOp) (cl : List Nat) (a b : List UInt8) : fBin op cl (.str a) (.str b) = sOf (evStr op a b) := rfl
section
variable (cl : List Nat) (k : IntKind) (a b : Int)
theorem b_add : fBin .add cl (.int k a) (.int k b) = some (.int k (k.wrap (a + b))) := by simp [fBin, evInt, sOf, ofS]
theorem b_sub : fBin .sub cl (.int k a) (.int k b) = some (.int k (k.wrap (a - b))) := by simp [fBin, evInt, sOf, ofS]
theorem b_mul : fBin .mul cl (.int k a) (.int k b) = some (.int k (k.wrap (a * b))) := by simp [fBin, evInt, sOf, ofS]
theorem b_quo : fBin .quo cl (.int k a) (.int k b) = if b = 0 then none else some (.int k (k.wrap (a.tdiv b))) := by simp only [fBin, evInt, reduceCtorEq, or_self, if_false, if_true]; split <;> rfl
theorem b_rem : fBin .rem cl (.int k a) (.int k b) = if b = 0 then none else some (.int k (a.tmod b)) := by simp only [fBin, evInt, reduceCtorEq, or_self, if_false, if_true]; split <;> rfl
theorem b_and : fBin .and cl (.int k a) (.int k b) = some (.int k (k.wrap (BitVec.ofInt k.bits a &&& BitVec.ofInt k.bits b).toNat)) := by simp [fBin, evInt, sOf, ofS]
theorem b_eql : fBin .eql cl (.int k a) (.int k b) = some (.bool (decide (a = b))) := by simp [fBin, evInt, sOf, ofS]; rfl
theorem b_neq : fBin .neq cl (.int k a) (.int k b) = some (.bool (decide (¬ a = b))) := by simp [fBin, evInt, sOf, ofS]; rw [ibne, not_dec]
theorem b_lss : fBin .lss cl (.int k a) (.int k b) = some (.bool (decide (a < b))) := by simp [fBin, evInt, sOf, ofS]
theorem b_leq : fBin .leq cl (.int k a) (.int k b) = some (.bool (decide (a ≤ b))) := by simp [fBin, evInt, sOf, ofS]
theorem b_gtr : fBin .gtr cl (.int k a) (.int k b) = some (.bool (decide (b < a))) := by simp [fBin, evInt, sOf, ofS]
theorem b_geq : fBin .geq cl (.int k a) (.int k b) = some (.bool (decide (b ≤ a))) := by simp [fBin, evInt, sOf, ofS]
theorem b_shl (k' : IntKind) : fBin .shl cl (.int k a) (.int k' b) = if b < 0 then none else some (.int k (k.wrap (a * 2 ^ (min b.toNat k.bits)))) := by simp only [fBin, evShift, true_or, if_true]; split <;> rfl
theorem b_shr (k' : IntKind) : fBin .shr cl (.int k a) (.int k' b) = if b < 0 then none else some (.int k (a.fdiv (2 ^ (min b.toNat k.bits)))) := by simp only [fBin, evShift, or_true, if_true]; split <;> rfl
end
theorem b_seq (cl : List Nat) (a b : List UInt8) : fBin .eql cl (.str a) (.str b) = some (.bool (decide (a = b))) := by
  show some (FV.bool (a == b)) = _
  congr 2
  rw [Bool.eq_iff_iff]; simp
theorem b_sne (cl : List Nat) (a b : List UInt8) : fBin .neq cl (.str a) (.str b) = some (.bool (decide (¬ a = b))) := by
  show some (FV.bool (!(a == b))) = _
  congr 2
  rw [Bool.eq_iff_iff]; simp
theorem b_scat (cl : List Nat) (a b : List UInt8) : fBin .add cl (.str a) (.str b) = if a.length + b.length ≤ 140737488351232 then some (.str (a ++ b)) else none := by
  show sOf (if _ then _ else _) = _
  split <;> rfl
theorem b_beq (a b : Bool) : fBin .eql [1] (.bool a) (.bool b) = some (.bool (a == b)) := rfl
theorem b_bne (a b : Bool) : fBin .neq [1] (.bool a) (.bool b) = some (.bool (!(a == b))) := rfl
theorem u_not (b : Bool) : fUn .not (.bool b) = some (.bool !b) := rfl
theorem u_neg (k : IntKind) (n : Int) : fUn .neg (.int k n) = some (.int k (k.wrap (0 - n))) := rfl
theorem int_int (k k' : IntKind) (n : Int) : fInt k (.int k' n) = some (.int k (k.wrap n)) := rfl
theorem nat_int (k : IntKind) (n : Int) : fNat (.int k n) = if 0 ≤ n then some n.toNat else none := rfl
theorem nat_pos {k : IntKind} {n : Int} (h : 0 ≤ n) : fNat (.int k n) = some n.toNat := if_pos h
theorem bnd_none (d : Nat) : fBnd none d = some d := rfl
theorem bnd_some (x : FV) (d : Nat) : fBnd (some x) d = fNat x := rfl
theorem s2b_str (s : List UInt8) : fS2b (.str s) = if s.length ≤ 140737488351232 then some (.bys s) else none := rfl
theorem i2s_int (k : IntKind) (n : Int) : fI2s (.int k n) = some (.str (Utf8.encode n).data.toList) := rfl
theorem idn_str (s : List UInt8) : fIdn (.str s) = some (.str s) := rfl
theorem subS_str (s : List UInt8) (lo hi : Option FV) : fSubS (.str s) lo hi = (fBnd hi s.length).bind fun h => (fBnd lo 0).bind fun l => if l ≤ h ∧ h ≤ s.length then some (.str ((s.take h).drop l)) else none := rfl
theorem sub_lst (L : FHeap) (esz n : Nat) (c : List FV) (lo hi mx : Option FV) : fSubL L esz (.lst n c) lo hi mx = (fBnd mx n).bind fun m => (fBnd hi n).bind fun h => (fBnd lo 0).bind fun l =>
      if l ≤ h ∧ h ≤ m ∧ m ≤ n ∧ n * esz = c.length then some (.lst (h - l) ((c.take (h * esz)).drop (l * esz))) else none := rfl
theorem sub_emp (L : FHeap) (esz : Nat) (lo hi mx : Option FV) : fSubL L esz .emp lo hi mx = (fBnd hi 0).bind fun h => (fBnd lo 0).bind fun l => (fBnd mx 0).bind fun m => if l = 0 ∧ h = 0 ∧ m = 0 then some .emp else none := rfl
theorem sub_ref (L : FHeap) (esz d g o n : Nat) (lo hi mx : Option FV) : fSubL L esz (.ref d g o n) lo hi mx = (rowB g (L d)).bind fun r => (fBnd mx n).bind fun m => (fBnd hi n).bind fun h => (fBnd lo 0).bind fun l =>
      if r.2.2.2.1 = esz ∧ l ≤ h ∧ h ≤ m ∧ m ≤ n then some (.ref d g (o + l * esz) (h - l)) else none := by rw [← rowOf_eq]; rfl
theorem fadr_ptr (off d g o : Nat) : fFadr off (.ptr d g o) = some (.ptr d g (o + off)) := rfl
theorem fadr_tp (off : Nat) (c : List FV) (o : Nat) : fFadr off (.tp c o) = some (.tp c (o + off)) := rfl
theorem fld_agg (off : Nat) (g : Option Nat) (c : List FV) : fFld off g (.agg c) = aggF c off g := rfl
theorem iadr_lst (L : FHeap) (esz n : Nat) (c : List FV) (i : FV) : fIadrL L esz (.lst n c) i = (fNat i).bind fun i => if i < n then some (.tp c (i * esz)) else none := rfl
theorem iadr_ref (L : FHeap) (esz d g o n : Nat) (i : FV) : fIadrL L esz (.ref d g o n) i = (fNat i).bind fun i => if i < n then some (.ptr d g (o + i * esz)) else none := rfl
theorem iadr_bys (L : FHeap) (esz : Nat) (s : List UInt8) (i : FV) : fIadrL L esz (.bys s) i = (fNat i).bind fun i => if i < s.length ∧ esz = 1 then some (.tp (s.map fun b => .int .u8 b.toNat) i) else none := rfl
theorem iadrA_ptr (n esz d g o : Nat) (i : FV) : fIadrA n esz (.ptr d g o) i = (fNat i).bind fun i => if i < n then some (.ptr d g (o + i * esz)) else none := rfl
theorem iadrA_tp (n esz : Nat) (c : List FV) (o : Nat) (i : FV) : fIadrA n esz (.tp c o) i = (fNat i).bind fun i => if i < n then some (.tp c (o + i * esz)) else none := rfl
theorem idxS_str (s : List UInt8) (i : FV) : fIdxS (.str s) i = (fNat i).bind fun i => (s[i]?).map fun b => .int .u8 b.toNat := rfl
theorem idxA_agg (n esz : Nat) (g : Option Nat) (c : List FV) (i : FV) : fIdxA n esz g (.agg c) i = (fNat i).bind fun i => if i < n then aggF c (i * esz) g else none := rfl
theorem ext_tup (i : Nat) (l : List FV) : fExt i (.tup l) = l[i]? := rfl
theorem lenS_str (s : List UInt8) : fLenS (.str s) = some (.int .i64 s.length) := rfl
theorem lenL_emp : fLenL .emp = some (.int .i64 0) := rfl
theorem lenL_lst (n : Nat) (c : List FV) : fLenL (.lst n c) = some (.int .i64 n) := rfl
theorem lenL_ref (d g o n : Nat) : fLenL (.ref d g o n) = some (.int .i64 n) := rfl
theorem lenL_bys (s : List UInt8) : fLenL (.bys s) = some (.int .i64 s.length) := rfl
theorem mm_nil (b : Bool) (x : FV) : fMmAll b x [] = some x := rfl
theorem mm_cons (b : Bool) (k : IntKind) (x y : Int) (l : List FV) : fMmAll b (.int k x) (.int k y :: l) = fMmAll b (.int k (if b then (if y > x then y else x) else (if y < x then y else x))) l := by
  show (fMm2 b _ _).bind _ = _
  simp only [fMm2, if_true, Option.bind_some]
theorem rng_str (d g : Nat) (s : List UInt8) : fRng d g (.str s) = some (.ptr d g 0, [(d, some (.iter g s 0))]) := rfl
def nxB (d g : Nat) : Option FB → FR
  | some (.iter g' s pos) => if g' = g then (if pos < s.length then
        some (.tup [.bool true, .int .i64 pos, .int .i32 (Utf8.decode ⟨s.toArray⟩ pos).1], [(d, some (.iter g s (pos + (Utf8.decode ⟨s.toArray⟩ pos).2)))])
        else some (.tup [.bool false], [])) else none
  | _ => none
theorem nxt_ptr (L : FHeap) (d g : Nat) : fNxt L (.ptr d g 0) = nxB d g (L d) := by
  unfold fNxt nxB
  simp only
  cases L d with
  | none => simp only
  | some fb => cases fb <;> simp only
theorem nxB_iter (d g g' : Nat) (s : List UInt8) (pos : Nat) : nxB d g (some (.iter g' s pos)) = if g' = g then (if pos < s.length then
        some (.tup [.bool true, .int .i64 pos, .int .i32 (Utf8.decode ⟨s.toArray⟩ pos).1], [(d, some (.iter g s (pos + (Utf8.decode ⟨s.toArray⟩ pos).2)))])
        else some (.tup [.bool false], [])) else none := rfl
theorem cells_agg (l : List FV) : (FV.agg l).cells = some l := rfl
theorem cells_int (k : IntKind) (n : Int) : (FV.int k n).cells = some [.int k n] := rfl
theorem cells_bool (b : Bool) : (FV.bool b).cells = some [.bool b] := rfl
theorem cells_str (s : List UInt8) : (FV.str s).cells = some [.str s] := rfl
theorem cells_emp : FV.emp.cells = some [.emp] := rfl
theorem cells_nilp : FV.nilp.cells = some [.nilp] := rfl
theorem cells_nilf : FV.nilf.cells = some [.nilf] := rfl
theorem cells_nili : FV.nili.cells = some [.nili] := rfl
theorem cells_lst (n : Nat) (c : List FV) : (FV.lst n c).cells = some [.lst n c] := rfl
theorem cells_tp (c : List FV) (o : Nat) : (FV.tp c o).cells = some [.tp c o] := rfl
theorem cells_bys (s : List UInt8) : (FV.bys s).cells = some [.bys s] := rfl
theorem cells_ref (d g o n : Nat) : (FV.ref d g o n).cells = some [.ref d g o n] := rfl
theorem cells_ptr (d g o : Nat) : (FV.ptr d g o).cells = some [.ptr d g o] := rfl
theorem cells_clo (f : Nat) (a b : List FV) : (FV.clo f a b).cells = some [.clo f a b] := rfl
theorem cells_ifc (t : Nat) (v : FV) : (FV.ifc t v).cells = some [.ifc t v] := rfl
theorem cells_tup (l : List FV) : (FV.tup l).cells = some [] := rfl
end Go.Proofs.YtalnnbokmpppjaaAb
