/- What the abstract machine answers, the machine answers, in every order. -/
import Derived.Test.YtalnnbokmpppjaaAbOp7
import Derived.LoopN
namespace Go.Proofs.YtalnnbokmpppjaaAb
open Go Go.RowKit
set_option linter.unusedVariables false
set_option linter.unusedSimpArgs false

/-! ### The abstract form of code -/
def preBits (acc : List O) (es : List Edge) : Nat := es.foldl (fun s g => if Region.binds .any g then s ||| 2 ^ g.on ||| ((acc[g.on]?).map O.pre).getD 0 else s) 0
def cGuard (nt : Nat) (ops : Array Oper) : Option (Nat × Bool) → Option (Option (Nat × Bool))
  | none => some none
  | some (j, b) => ((ops[j]?).bind (·.dst)).bind fun t => if t < nt then some (some (t, b)) else none
def cDst (nt : Nat) : Option Nat → Bool
  | none => true
  | some d => decide (d < nt)
def cOps (P : Program) (res : Nat → Option Nat) (nt : Nat) (ops : Array Oper) : List Oper → List O → Option (List O)
  | [], acc => some acc
  | o :: l, acc => (some ((cI P res nt o.op).getD .bad)).bind fun i => (cGuard nt ops o.guard).bind fun g => if cDst nt o.dst then cOps P res nt ops l (acc ++ [⟨o.dst, i, g, preBits acc o.after.toList, false⟩]) else none
def isoAll (l : List O) : List O := l.zipIdx.map fun q => { q.1 with iso := (List.range l.length).all fun j => match l[j]? with | some r => !r.op.heapy || ordOK l q.2 j | none => true }
def cReg (P : Program) (res : Nat → Option Nat) (nt : Nat) (ops : Array Oper) (draw : Bool) : Option (List O) :=
  (cOps P res nt ops ops.toList []).bind fun l => if draw then (if regOK (isoAll l) then some (isoAll l) else none) else some (l.map fun q => { q with pre := 0 })
def cC (P : Program) (res : Nat → Option Nat) (nt : Nat) : Code → Option C
  | .skip => some .skip
  | .region _ ops draw => (cReg P res nt ops draw).map (.reg draw)
  | .seq a b => (cC P res nt a).bind fun a => (cC P res nt b).map fun b => .seq a b
  | .cond x a b => (cX nt x).bind fun x => (cC P res nt a).bind fun a => (cC P res nt b).map fun b => .cond x a b
  | .block id a => (cC P res nt a).map (.blk id)
  | .loop a => (cC P res nt a).map .loop
  | .exit id => some (.exit id)
  | .ret => some .ret
  | _ => some .bad
def cR (P : Program) (nt : Nat) : ResultVar → Option R
  | .tmp t => if t < nt then some (.tmp t) else none
  | .cell t ty => if t < nt then (aggOf P ty).map (.cell t) else none
def cF (P : Program) (res : Nat → Option Nat) (fn : Func) : Option F :=
  fn.body.bind fun b => (cC P res fn.ntmps b).bind fun c => (allOf (cR P fn.ntmps) fn.results.toList).bind fun rs =>
    if fn.params.size + fn.nfree ≤ fn.ntmps then some ⟨fn.ntmps, fn.params.size + fn.nfree, c, rs⟩ else none

section
variable {P : Program} {res : Nat → Option Nat} {B0 : Nat} {w0 : World}
/-- what is asked of the table of functions -/
structure Good (P : Program) (res : Nat → Option Nat) (ir : Nat → Option F) : Prop where
  mixed : P.follows .mixedOrders = true
  fn : ∀ f F, ir f = some F → ∃ fn, P.funcs[f]? = some fn ∧ cF P res fn = some F
  call : ∀ f g, res f = some g → ∀ args w, (callFunc f args).run P w = .ok (.enter g args) w
  clo : ∀ f F, ir f = some F → ∀ args w, (callFunc f args).run P w = .ok (.enter f args) w
def Gives (B0 : Nat) (w0 : World) (ρ : Rho) (H : Heap) (p : Nm) (r : V × Upd) (e : Ending) (w' : World) : Prop :=
  ∃ ρ' v', e = .returned v' ∧ VR ρ' r.1 v' ∧ Ext p ρ ρ' ∧ Sim B0 w0 ρ' (app H r.2) w'
def CallOK (P : Program) (B0 : Nat) (w0 : World) (call : CallF) : Prop :=
  ∀ f args p H r, call f args p H = some r → ∀ ρ w (args' : Array Value), VRL ρ args args'.toList → Sim B0 w0 ρ H w → Fresh p ρ → Calls P f args' w (Gives B0 w0 ρ H p r)
def CloOK (P : Program) (call : CallF) : Prop := ∀ f args p H r, call f args p H = some r → ∀ args w, (callFunc f args).run P w = .ok (.enter f args) w

theorem done_wp {o : Oper} {a : Act} {w : World} {ρ : Rho} {H : Heap} {p : Nm} {v : V} {u : Upd} (h : Done P o a w B0 w0 ρ H p v u) {K : Act → World → Prop} {Q : Exit → Act → World → Prop}
    (hK : ∀ w' ρ' v', VR ρ' v v' → Ext p ρ ρ' → Sim B0 w0 ρ' (app H u) w' → K (a.put o.dst v') w') : o.wp P a w K Q := by
  obtain ⟨nx, w', ρ', v', hr, hn, h1, h2, h3⟩ := h
  unfold Oper.wp
  rw [hr]
  rcases hn with rfl | ⟨rfl, rfl⟩
  · exact hK _ _ _ h1 h2 h3
  · exact hK _ _ _ h1 h2 h3
theorem call_wp {o : Oper} {a : Act} {w : World} {ρ : Rho} {H : Heap} {p : Nm} {r : V × Upd} {g : FuncId} {args : Array Value} (hr : (execOp a.eval o).run P w = .ok (.enter g args) w) (hc : Calls P g args w (Gives B0 w0 ρ H p r)) {K : Act → World → Prop} {Q : Exit → Act → World → Prop}
    (hK : ∀ w' ρ' v', VR ρ' r.1 v' → Ext p ρ ρ' → Sim B0 w0 ρ' (app H r.2) w' → K (a.put o.dst v') w') : o.wp P a w K Q := by
  unfold Oper.wp
  rw [hr]
  show Calls P g args w _
  refine hc.mono fun e w' he => ?_
  obtain ⟨ρ', v', rfl, h1, h2, h3⟩ := he
  exact hK _ _ _ h1 h2 h3
theorem exec_call {o : Oper} {a : Act} {w : World} {f g : FuncId} {xs : Array Operand} {ts : Array TypeId} (hop : o.op = .call { callee := .value (.func f), args := xs, argTypes := ts }) (hg : ∀ args w, (callFunc f args).run P w = .ok (.enter g args) w) :
    (execOp a.eval o).run P w = .ok (.enter g (xs.map a.eval)) w := by
  unfold execOp; rw [hop]
  simp [resolve, Deferred.ofValue, Act.eval, invoke, hg]
theorem exec_callv {o : Oper} {a : Act} {w : World} {f : FuncId} {x : Operand} {xs : Array Operand} {ts : Array TypeId} {fs cs : Array Value} (hop : o.op = .call { callee := .value x, args := xs, argTypes := ts }) (hx : a.eval x = .func (.func f) fs cs) (hg : ∀ args w, (callFunc f args).run P w = .ok (.enter f args) w) :
    (execOp a.eval o).run P w = .ok (.enter f (fs ++ xs.map a.eval ++ cs)) w := by
  unfold execOp; rw [hop]
  simp [resolve, Deferred.ofValue, hx, invoke, hg]
theorem op_ok0 {call : CallF} (hcall : CallOK P B0 w0 call) (hclo : CloOK P call) (hres : ∀ f g, res f = some g → ∀ args w, (callFunc f args).run P w = .ok (.enter g args) w) {nt : Nat} {o : Oper} {i : I} (hi : cI P res nt o.op = some i) {e : Env} {a : Act} {w : World} {ρ : Rho} {H : Heap} {p : Nm} {r : V × Upd} (hE : EnvR ρ nt e a) (hS : Sim B0 w0 ρ H w) (hF : Fresh p ρ)
    (he : evI call e H p i = some r) {K : Act → World → Prop} {Q : Exit → Act → World → Prop}
    (hK : ∀ w' ρ' v', VR ρ' r.1 v' → Ext p ρ ρ' → Sim B0 w0 ρ' (app H r.2) w' → K (a.put o.dst v') w') : o.wp P a w K Q := by
  obtain ⟨v, u⟩ := r
  unfold cI at hi
  split at hi <;> rename_i hop
  · obtain ⟨y, hy, rfl⟩ := Option.map_eq_some_iff.1 hi
    exact done_wp (sim_mov hE hS (.inl hop) hy he) hK
  · obtain ⟨y, hy, rfl⟩ := Option.map_eq_some_iff.1 hi
    exact done_wp (sim_mov hE hS (.inr hop) hy he) hK
  · obtain ⟨y, hy, hi⟩ := Option.bind_eq_some_iff.1 hi
    obtain ⟨z, hz, hi⟩ := Option.bind_eq_some_iff.1 hi
    obtain ⟨q, hq, rfl⟩ := Option.map_eq_some_iff.1 hi
    exact done_wp (sim_pick hE hS hop hy hz hq he) hK
  · obtain ⟨z, hz, rfl⟩ := Option.map_eq_some_iff.1 hi
    exact done_wp (sim_alloc hS hF hop hz he) hK
  · obtain ⟨z, hz, rfl⟩ := Option.map_eq_some_iff.1 hi
    exact done_wp (sim_box hE hS hF hop hz he) hK
  · exact done_wp (sim_bld hE hS hop hi he) hK
  · split at hi
    · rename_i et hu
      obtain ⟨sz, hsz, hi⟩ := Option.bind_eq_some_iff.1 hi
      obtain ⟨z, hz, hi⟩ := Option.bind_eq_some_iff.1 hi
      split at hi
      · rename_i hl
        obtain ⟨ps, hps, rfl⟩ := Option.map_eq_some_iff.1 hi
        exact done_wp (sim_bldS hE hS hF hop hu hsz hz hl hps he) hK
      · cases hi
    · cases hi
  · obtain ⟨g, hg, hi⟩ := Option.bind_eq_some_iff.1 hi
    obtain ⟨y, hy, rfl⟩ := Option.map_eq_some_iff.1 hi
    exact done_wp (sim_load hE hS hop hy hg he) hK
  · obtain ⟨sz, hsz, hi⟩ := Option.bind_eq_some_iff.1 hi
    obtain ⟨y, hy, hi⟩ := Option.bind_eq_some_iff.1 hi
    obtain ⟨z, hz, rfl⟩ := Option.map_eq_some_iff.1 hi
    exact done_wp (sim_store hE hS hop hy hz hsz he) hK
  · obtain ⟨y, hy, rfl⟩ := Option.map_eq_some_iff.1 hi
    exact done_wp (sim_nilchk hE hS hop hy he) hK
  · obtain ⟨y, hy, hi⟩ := Option.bind_eq_some_iff.1 hi
    obtain ⟨z, hz, rfl⟩ := Option.map_eq_some_iff.1 hi
    exact done_wp (sim_bin hE hS hop hy hz he) hK
  · obtain ⟨y, hy, rfl⟩ := Option.map_eq_some_iff.1 hi
    exact done_wp (sim_un hE hS hop hy he) hK
  · obtain ⟨s, hs, hi⟩ := Option.bind_eq_some_iff.1 hi
    obtain ⟨d, hd, hi⟩ := Option.bind_eq_some_iff.1 hi
    obtain ⟨y, hy, hi⟩ := Option.bind_eq_some_iff.1 hi
    have u8 : ∀ t, isU8 P t = true → P.underlying t = some (.int .u8) := fun t h => by
      unfold isU8 at h; split at h
      · assumption
      · cases h
    split at hi
    · cases hi; exact done_wp (sim_toInt hE hS hop hy hs hd he) hK
    · cases hi; exact done_wp (sim_i2s hE hS hop hy hs hd he) hK
    · cases hi; exact done_wp (sim_idn hE hS hop hy hs hd he) hK
    · split at hi
      · rename_i h8; cases hi; exact done_wp (sim_s2b hE hS hF hop hs hd (u8 _ h8) hy he) hK
      · cases hi
    · split at hi
      · rename_i h8; cases hi; exact done_wp (sim_b2s hE hS hop hs hd (u8 _ h8) hy he) hK
      · cases hi
    · cases hi
  · split at hi
    · cases hi
    · cases hi
    · rename_i d hd1 hd2
      obtain ⟨y, hy, rfl⟩ := Option.map_eq_some_iff.1 hi
      cases hu : P.underlying _ with
      | none => exact absurd hu hd2
      | some d => exact done_wp (sim_ifc hE hS hop hy hu (fun q e => hd1 q (by rw [hu, e])) he) hK
  · obtain ⟨y, hy, hi⟩ := Option.bind_eq_some_iff.1 hi
    obtain ⟨z, hz, rfl⟩ := Option.map_eq_some_iff.1 hi
    exact done_wp (sim_clo hE hS hop hy hz he) hK
  · split at hi
    · rename_i et hu
      obtain ⟨it, hit, hi⟩ := Option.bind_eq_some_iff.1 hi
      split at hi
      · cases hi
      · rename_i h0
        obtain ⟨z, hz, hi⟩ := Option.bind_eq_some_iff.1 hi
        obtain ⟨y, hy, hi⟩ := Option.bind_eq_some_iff.1 hi
        obtain ⟨q, hq, rfl⟩ := Option.map_eq_some_iff.1 hi
        exact done_wp (sim_mk hE hS hF hop hu hit h0 hz hy hq he) hK
    · cases hi
  · obtain ⟨y, hy, hi⟩ := Option.bind_eq_some_iff.1 hi
    obtain ⟨lo, hlo, hi⟩ := Option.bind_eq_some_iff.1 hi
    obtain ⟨hh, hhi, hi⟩ := Option.bind_eq_some_iff.1 hi
    obtain ⟨mx, hmx, hi⟩ := Option.bind_eq_some_iff.1 hi
    have mm : ∀ {q r : Option X}, ¬ ((q.isSome && r.isNone) = true) → q.isSome = true → r.isSome = true := fun {q r} h1 h2 => by
      cases r with
      | none => exact absurd (by simp [h2]) h1
      | some _ => rfl
    split at hi
    · rename_i hu
      split at hi
      · rename_i hm
        cases hi
        have : ∀ {q : Option Operand} {q' : Option X}, cXo nt q = some q' → q'.isNone = true → q = none := fun {q q'} h1 h2 => by
          cases q with
          | none => rfl
          | some q => obtain ⟨y, _, rfl⟩ := Option.map_eq_some_iff.1 h1; simp at h2
        have hm0 := this hmx hm
        rw [hm0] at hop
        exact done_wp (sim_subS hE hS hop hy hlo hhi hu he) hK
      · cases hi
    · rename_i et hu
      split at hi
      · cases hi
      · rename_i hm
        obtain ⟨sz, hsz, rfl⟩ := Option.map_eq_some_iff.1 hi
        exact done_wp (sim_subL hE hS hop hy hlo hhi hmx hu hsz (mm hm) he) hK
    · rename_i n et hu
      split at hi
      · cases hi
      · rename_i hm
        obtain ⟨sz, hsz, rfl⟩ := Option.map_eq_some_iff.1 hi
        exact done_wp (sim_subA hE hS hop hy hlo hhi hmx hu hsz (mm hm) he) hK
    · cases hi
  · split at hi
    · rename_i fs hu
      obtain ⟨fd, hfd, hi⟩ := Option.bind_eq_some_iff.1 hi
      obtain ⟨sz, hsz, hi⟩ := Option.bind_eq_some_iff.1 hi
      obtain ⟨y, hy, rfl⟩ := Option.map_eq_some_iff.1 hi
      exact done_wp (sim_fadr hE hS hop hy hu hfd hsz he) hK
    · cases hi
  · split at hi
    · rename_i fs hu
      obtain ⟨fd, hfd, hi⟩ := Option.bind_eq_some_iff.1 hi
      obtain ⟨g, hg, hi⟩ := Option.bind_eq_some_iff.1 hi
      obtain ⟨y, hy, rfl⟩ := Option.map_eq_some_iff.1 hi
      exact done_wp (sim_fld hE hS hop hy hu hfd hg he) hK
    · cases hi
  · obtain ⟨y, hy, hi⟩ := Option.bind_eq_some_iff.1 hi
    obtain ⟨z, hz, hi⟩ := Option.bind_eq_some_iff.1 hi
    split at hi
    · rename_i et hu
      obtain ⟨sz, hsz, rfl⟩ := Option.map_eq_some_iff.1 hi
      exact done_wp (sim_iadrL hE hS hop hy hz hu hsz he) hK
    · rename_i n et hu
      obtain ⟨sz, hsz, rfl⟩ := Option.map_eq_some_iff.1 hi
      exact done_wp (sim_iadrA hE hS hop hy hz hu hsz he) hK
    · cases hi
  · obtain ⟨y, hy, hi⟩ := Option.bind_eq_some_iff.1 hi
    obtain ⟨z, hz, hi⟩ := Option.bind_eq_some_iff.1 hi
    split at hi
    · rename_i hu
      cases hi
      exact done_wp (sim_idxS hE hS hop hy hz hu he) hK
    · rename_i n et hu
      obtain ⟨sz, hsz, hi⟩ := Option.bind_eq_some_iff.1 hi
      obtain ⟨g, hg, rfl⟩ := Option.map_eq_some_iff.1 hi
      exact done_wp (sim_idxA hE hS hop hy hz hu hsz hg he) hK
    · cases hi
  · obtain ⟨y, hy, rfl⟩ := Option.map_eq_some_iff.1 hi
    exact done_wp (sim_ext hE hS hop hy he) hK
  · obtain ⟨g, hg, hi⟩ := Option.bind_eq_some_iff.1 hi
    obtain ⟨ys, hys, rfl⟩ := Option.map_eq_some_iff.1 hi
    exact call_wp (exec_call hop (hres _ _ hg)) (hcall _ _ _ _ _ he ρ w _ (VRL.opds hE hys) hS hF) hK
  · split at hi
    · rename_i t ht
      obtain ⟨ys, hys, rfl⟩ := Option.map_eq_some_iff.1 hi
      simp only [evI] at he
      split at he
      · rename_i f fs cs hx
        have h1 := VR.opd hE (show cX nt (.tmp _) = some (.t _) from if_pos ht)
        rw [hx] at h1
        obtain ⟨fa, ca, hx', h2, h3⟩ := clo_of h1
        have h4 := VRL.opds hE hys
        refine call_wp (exec_callv hop hx' (hclo _ _ _ _ _ he)) (hcall _ _ _ _ _ he ρ w _ ?_ hS hF) hK
        simpa using (h2.append h4).append h3
      · cases he
    · cases hi
  · split at hi
    · rename_i x y t ut hxs hts
      obtain ⟨x', hx, hi⟩ := Option.bind_eq_some_iff.1 hi
      obtain ⟨y', hy, hi⟩ := Option.bind_eq_some_iff.1 hi
      split at hi
      · rename_i et hu
        obtain ⟨it, hit, hi⟩ := Option.bind_eq_some_iff.1 hi
        split at hi
        · cases hi
        · rename_i h0
          simp only [not_or] at h0
          obtain ⟨q1, q2, q3, q4⟩ := h0
          cases hz : it.zero with
          | none => rw [hz] at q3; simp at q3
          | some z =>
            have hzs : z.cells.size = it.size := by rw [hz] at q4; simpa using q4
            split at hi
            · rename_i q hut; cases hi; exact done_wp (sim_app hE hS hF hop hxs hts hx hy hu (.inl ⟨_, hut⟩) hit hz hzs q1 q2 he) hK
            · rename_i hut; cases hi; exact done_wp (sim_app hE hS hF hop hxs hts hx hy hu (.inr hut) hit hz hzs q1 q2 he) hK
            · cases hi
      · cases hi
    · cases hi
  · split at hi
    · rename_i x y t r hxs hts
      obtain ⟨x', hx, hi⟩ := Option.bind_eq_some_iff.1 hi
      obtain ⟨y', hy, hi⟩ := Option.bind_eq_some_iff.1 hi
      split at hi
      · rename_i et hu
        obtain ⟨sz, hsz, rfl⟩ := Option.map_eq_some_iff.1 hi
        exact done_wp (sim_copy hE hS hop hxs ⟨_, hts⟩ hx hy hu hsz he) hK
      · cases hi
    · cases hi
  · split at hi
    · rename_i x t r hxs hts
      obtain ⟨x', hx, hi⟩ := Option.bind_eq_some_iff.1 hi
      split at hi
      · rename_i hu; cases hi; exact done_wp (sim_len hE hS hop hxs ⟨_, hts⟩ hx (.inl ⟨hu, rfl⟩) he) hK
      · rename_i q hu; cases hi; exact done_wp (sim_len hE hS hop hxs ⟨_, hts⟩ hx (.inr (.inl ⟨_, hu, rfl⟩)) he) hK
      · rename_i n q hu; cases hi; exact done_wp (sim_len hE hS hop hxs ⟨_, hts⟩ hx (.inr (.inr ⟨_, _, hu, rfl⟩)) he) hK
      · cases hi
    · cases hi
  · split at hi
    · cases hi
    · obtain ⟨ys, hys, rfl⟩ := Option.map_eq_some_iff.1 hi
      exact done_wp (sim_mm (b := true) hE hS hop hys he) hK
  · split at hi
    · cases hi
    · obtain ⟨ys, hys, rfl⟩ := Option.map_eq_some_iff.1 hi
      exact done_wp (sim_mm (b := false) hE hS hop hys he) hK
  · split at hi
    · rename_i hst
      obtain ⟨y, hy, rfl⟩ := Option.map_eq_some_iff.1 hi
      have str : ∀ t, isStr P t = true → P.underlying t = some .string := fun t h => by
        unfold isStr at h; split at h
        · assumption
        · cases h
      have hu := str _ hst
      exact done_wp (sim_rng hE hS hF hop hu hy he) hK
    · cases hi
  · obtain ⟨y, hy, rfl⟩ := Option.map_eq_some_iff.1 hi
    exact done_wp (sim_nxt hE hS hop hy he) hK
  · cases hi
theorem op_ok {call : CallF} (hcall : CallOK P B0 w0 call) (hclo : CloOK P call) (hres : ∀ f g, res f = some g → ∀ args w, (callFunc f args).run P w = .ok (.enter g args) w) {nt : Nat} {o : Oper} {i : I} (hi : (cI P res nt o.op).getD .bad = i) {e : Env} {a : Act} {w : World} {ρ : Rho} {H : Heap} {p : Nm} {r : V × Upd} (hE : EnvR ρ nt e a) (hS : Sim B0 w0 ρ H w) (hF : Fresh p ρ)
    (he : evI call e H p i = some r) {K : Act → World → Prop} {Q : Exit → Act → World → Prop}
    (hK : ∀ w' ρ' v', VR ρ' r.1 v' → Ext p ρ ρ' → Sim B0 w0 ρ' (app H r.2) w' → K (a.put o.dst v') w') : o.wp P a w K Q := by
  cases hc : cI P res nt o.op with
  | none => rw [hc] at hi; subst hi; cases he
  | some j => rw [hc] at hi; subst hi; exact op_ok0 hcall hclo hres hc hE hS hF he hK
end
end Go.Proofs.YtalnnbokmpppjaaAb
