/- The abstract machine's calls are the machine's. -/
import Derived.Test.YtalnnbokmpppjaaAbRun
namespace Go.Proofs.YtalnnbokmpppjaaAb
open Go Go.RowKit
set_option linter.unusedVariables false
set_option linter.unusedSimpArgs false
section
variable {P : Program} {res : Nat → Option Nat} {B0 : Nat} {w0 : World} {ir : Nat → Option F}
theorem preBits_iff (acc : List O) (j : Nat) : ∀ (es : List Edge) (s : Nat), (es.foldl (fun s g => if Region.binds .any g then s ||| 2 ^ g.on ||| ((acc[g.on]?).map O.pre).getD 0 else s) s).testBit j = true ↔
    s.testBit j = true ∨ ∃ g ∈ es, Region.binds .any g = true ∧ (g.on = j ∨ (((acc[g.on]?).map O.pre).getD 0).testBit j = true)
  | [], s => by simp
  | g :: es, s => by
    rw [List.foldl_cons, preBits_iff acc j es]
    by_cases hb : Region.binds .any g = true
    · rw [if_pos hb]
      simp only [Nat.testBit_or, Bool.or_eq_true, Nat.testBit_two_pow, decide_eq_true_eq, List.mem_cons, exists_eq_or_imp, hb, true_and]
      constructor
      · rintro (((h | h) | h) | h)
        · exact .inl h
        · exact .inr (.inl (.inl h))
        · exact .inr (.inl (.inr h))
        · exact .inr (.inr h)
      · rintro (h | (h | h) | h)
        · exact .inl (.inl (.inl h))
        · exact .inl (.inl (.inr h))
        · exact .inl (.inr h)
        · exact .inr h
    · rw [if_neg hb]
      have hb' : Region.binds .any g = false := by simpa using hb
      simp [hb']
theorem isoAll_get (l : List O) (i : Nat) : (isoAll l)[i]? = (l[i]?).map fun q => { q with iso := (List.range l.length).all fun j => match l[j]? with | some r => !r.op.heapy || ordOK l i j | none => true } := by
  unfold isoAll
  rw [List.getElem?_map, List.getElem?_zipIdx]
  cases l[i]? with
  | none => rfl
  | some q => simp; rfl
theorem isoAll_pre (l : List O) (i : Nat) : preOf (isoAll l) i = preOf l i := by
  unfold preOf; rw [isoAll_get]; cases l[i]? <;> rfl
theorem cReg_spec {nt : Nat} {ops : Array Oper} {draw : Bool} {os : List O} (h : cReg P res nt ops draw = some os) :
    os.length = ops.size ∧ (∀ (k : Nat) q, os[k]? = some q → ∃ o, ops[k]? = some o ∧ OpR P res nt ops o q) ∧ (draw = true → regOK os = true ∧ EdgesR ops os) := by
  unfold cReg at h
  obtain ⟨l, hl, h⟩ := Option.bind_eq_some_iff.1 h
  obtain ⟨m2, hm, hlen, hspec⟩ := cOps_spec _ _ _ hl
  simp only [List.nil_append] at hm
  subst hm
  simp only [Array.length_toList] at hlen
  have hget : ∀ (k : Nat) q, l[k]? = some q → ∃ o, ops[k]? = some o ∧ OpR P res nt ops o q ∧ q.pre = preBits (l.take k) o.after.toList := fun k q hq => by
    have hk : k < ops.size := by rw [← hlen]; exact (List.getElem?_eq_some_iff.1 hq).1
    have ho : ops[k]? = some ops[k] := Array.getElem?_eq_getElem hk
    have := hspec k ops[k] q (by simp [ho]) hq
    simp only [List.length_nil, Nat.zero_add] at this
    exact ⟨_, ho, this.1, this.2⟩
  split at h
  · split at h <;> cases h
    rename_i hok
    refine ⟨by simp [isoAll, hlen], fun k q hq => ?_, fun _ => ⟨hok, fun i o ho => ?_⟩⟩
    · rw [isoAll_get] at hq
      obtain ⟨q', hq', rfl⟩ := Option.map_eq_some_iff.1 hq
      obtain ⟨o, ho, h1, _⟩ := hget k q' hq'
      exact ⟨o, ho, h1.op, h1.dst, h1.lt, h1.guard⟩
    · have hi : i < ops.size := (Array.getElem?_eq_some_iff.1 ho).1
      have hq : l[i]? = some l[i] := List.getElem?_eq_getElem (by omega)
      obtain ⟨o', ho', _, hp⟩ := hget i _ hq
      rw [ho] at ho'; cases ho'
      have hpi : preOf (isoAll l) i = preBits (l.take i) o.after.toList := by rw [isoAll_pre, preOf_some hq, hp]
      have hiff : ∀ j, (preOf (isoAll l) i).testBit j = true ↔ ∃ g ∈ o.after, Region.binds .any g = true ∧ (g.on = j ∨ ((((l.take i)[g.on]?).map O.pre).getD 0).testBit j = true) := fun j => by
        rw [hpi]
        unfold preBits
        rw [preBits_iff]
        simp
      refine ⟨fun g hg hb => (hiff g.on).2 ⟨g, hg, hb, .inl rfl⟩, fun j hj => ?_⟩
      obtain ⟨g, hg, hb, h⟩ := (hiff j).1 hj
      refine ⟨g, hg, hb, h.imp_right fun h => ?_⟩
      rw [isoAll_pre]
      unfold preOf
      rw [List.getElem?_take] at h
      split at h
      · exact h
      · simp at h
  · cases h
    refine ⟨by simp [hlen], fun k q hq => ?_, fun h => by simp_all⟩
    rw [List.getElem?_map] at hq
    obtain ⟨q', hq', rfl⟩ := Option.map_eq_some_iff.1 hq
    obtain ⟨o, ho, h1, _⟩ := hget k q' hq'
    exact ⟨o, ho, h1.op, h1.dst, h1.lt, h1.guard⟩
def exOf : Ex → Exit
  | .norm => .normal
  | .exit id => .exit id
  | .ret => .ret
theorem fresh_cons {p : Nm} {ρ : Rho} (h : Fresh p ρ) (i : Nat) : Fresh (i :: p) ρ := h.down i
theorem den_ok {call : CallF} (hcall : CallOK P B0 w0 call) (hclo : CloOK P call) (hres : ∀ f g, res f = some g → ∀ args w, (callFunc f args).run P w = .ok (.enter g args) w) (hmono : CLe call call) (hm : P.follows .mixedOrders = true) {nt n : Nat} {H : Heap} :
    ∀ (c : C) (code : Code), cC P res nt code = some c → ∀ (p : Nm) (s : St) (r : Ex × St), den call (itN n) H c p s = some r → ∀ (ρ : Rho) (a : Act) (w : World), StR B0 w0 ρ nt H s a w → Fresh p ρ → ∀ (Q : Exit → Act → World → Prop),
      (∀ ρ' a' w', StR B0 w0 ρ' nt H r.2 a' w' → Ext p ρ ρ' → Q (exOf r.1) a' w') → code.wp P Q a w := by
  intro c
  induction c with
  | skip =>
    intro code hc p s r h ρ a w hR hF Q hQ
    cases code <;> simp only [cC, reduceCtorEq, Option.map_eq_some_iff, Option.bind_eq_some_iff, and_false, exists_false, Option.some.injEq] at hc
    cases h
    exact wp_skip (hQ ρ a w hR (Ext.refl _ _))
  | exit id =>
    intro code hc p s r h ρ a w hR hF Q hQ
    cases code <;> simp only [cC, reduceCtorEq, Option.map_eq_some_iff, Option.bind_eq_some_iff, and_false, exists_false, Option.some.injEq, C.exit.injEq] at hc
    subst hc
    cases h
    exact wp_exit (hQ ρ a w hR (Ext.refl _ _))
  | ret =>
    intro code hc p s r h ρ a w hR hF Q hQ
    cases code <;> simp only [cC, reduceCtorEq, Option.map_eq_some_iff, Option.bind_eq_some_iff, and_false, exists_false, Option.some.injEq] at hc
    cases h
    exact wp_ret (hQ ρ a w hR (Ext.refl _ _))
  | bad =>
    intro code hc p s r h ρ a w hR hF Q hQ
    cases h
  | reg draw os =>
    intro code hc p s r h ρ a w hR hF Q hQ
    cases code <;> simp only [cC, reduceCtorEq, Option.map_eq_some_iff, Option.bind_eq_some_iff, and_false, exists_false, Option.some.injEq, C.reg.injEq] at hc
    rename_i id ops draw'
    obtain ⟨os', hos, rfl, rfl⟩ := hc
    obtain ⟨hlen, hops, hdraw⟩ := cReg_spec hos
    cases draw' with
    | false =>
      unfold den at h
      obtain ⟨s', hs', rfl⟩ := Option.map_eq_some_iff.1 h
      refine wp_region ?_
      have := regT_ok hcall hclo hres (H := H) (p := p) (Q := Q) os' 0 s hs' (fun k q hq => by simpa using hops k q hq) ρ a w hR (fun k _ => hF.down k) hQ
      rw [List.range_eq_range', ← hlen]; exact this
    | true =>
      obtain ⟨hok, hEd⟩ := hdraw rfl
      unfold den at h
      obtain ⟨q, hq, rfl⟩ := Option.map_eq_some_iff.1 h
      have hst := regD_stD (ops := os') (call := call) (H := app H s.u) (p := p) (e0 := s.env) os' [] (s.env, []) q (by simp) rfl (by simpa using hq)
      have hfr : ∀ n, under p n = true → app H s.u n = none := fun n hn => by
        cases hc : app H s.u n with
        | none => rfl
        | some b =>
          obtain ⟨l, h1, _⟩ := hR.sim.blk n b hc
          rw [hF n hn] at h1
          cases h1
      have hreg : RegH call (app H s.u) p os' s.env := ⟨hok, hmono, hfr, ⟨q, hst⟩⟩
      obtain ⟨e1, _, e3⟩ := EE_all hreg os'.length q (Nat.le_refl _) hst
      refine wp_region_any hm ?_
      have hnone : listS (Array.replicate ops.size false) = fun _ => false := by
        funext j; unfold listS
        simp only [Array.getD_eq_getD_getElem?, Array.getElem?_replicate]
        split <;> rfl
      refine regD_ok hcall hclo hres hops hlen hEd hreg hF (fun ρ' a' w' h1 h2 h3 h4 => ?_) ops.size _ ρ a _ (by simp) ?_ ?_ ?_ hR.defers ?_ (Ext.refl _ _) (fun k _ => hF.down k)
      · refine hQ ρ' a' w' ⟨?_, h2, ?_⟩ h4
        · show EnvR ρ' nt q.1 a'; rw [e1]; exact h1
        · show Sim B0 w0 ρ' (app H (allU q.2 ++ s.u)) w'
          rw [← app_app, e3]; exact h3
      · rw [hnone]; intro j hj; cases hj
      · have := List.length_filter_le (! ·) (Array.replicate ops.size false).toList
        simp [this]
      · rw [hnone, EE_none]; exact hR.env
      · rw [hnone, UU_none]; exact hR.sim.drew
  | seq x y ihx ihy =>
    intro code hc p s r h ρ a w hR hF Q hQ
    cases code <;> simp only [cC, reduceCtorEq, Option.map_eq_some_iff, Option.bind_eq_some_iff, and_false, exists_false, Option.some.injEq, C.seq.injEq] at hc
    rename_i cx cy
    obtain ⟨x', hx, y', hy, rfl, rfl⟩ := hc
    unfold den at h
    obtain ⟨q, hq, h⟩ := Option.bind_eq_some_iff.1 h
    refine wp_seq (ihx cx hx _ s q hq ρ a w hR (hF.down 0) _ fun ρ1 a1 w1 h1 h2 => ?_)
    split at h
    · rename_i hn
      rw [hn]
      exact ihy cy hy _ q.2 r h ρ1 a1 w1 h1 (hF.ext h2 (by omega)) Q fun ρ' a' w' h3 h4 => hQ ρ' a' w' h3 ((h2.up (under_cons 0 p)).trans (h4.up (under_cons 1 p)))
    · rename_i hn
      have hqr := Option.some.inj h
      have := hQ ρ1 a1 w1 (by rw [← hqr]; exact h1) (h2.up (under_cons 0 p))
      rw [← hqr] at this
      cases hq1 : q.1 with
      | norm => exact absurd hq1 hn
      | exit id => rw [hq1] at this; exact this
      | ret => rw [hq1] at this; exact this
  | cond x y z ihy ihz =>
    intro code hc p s r h ρ a w hR hF Q hQ
    cases code <;> simp only [cC, reduceCtorEq, Option.map_eq_some_iff, Option.bind_eq_some_iff, and_false, exists_false, Option.some.injEq, C.cond.injEq] at hc
    rename_i ox cy cz
    obtain ⟨x', hx, y', hy, z', hz, rfl, rfl, rfl⟩ := hc
    unfold den at h
    split at h
    · rename_i t ht
      have hv := VR.opd hR.env hx
      rw [ht] at hv
      refine wp_cond (bool_of hv) ?_
      split
      · rename_i hb
        rw [if_pos hb] at h
        exact ihy cy hy _ s r h ρ a w hR (hF.down 0) Q fun ρ' a' w' h3 h4 => hQ ρ' a' w' h3 (h4.up (under_cons 0 p))
      · rename_i hb
        rw [if_neg hb] at h
        exact ihz cz hz _ s r h ρ a w hR (hF.down 1) Q fun ρ' a' w' h3 h4 => hQ ρ' a' w' h3 (h4.up (under_cons 1 p))
    · cases h
  | blk id x ihx =>
    intro code hc p s r h ρ a w hR hF Q hQ
    cases code <;> simp only [cC, reduceCtorEq, Option.map_eq_some_iff, Option.bind_eq_some_iff, and_false, exists_false, Option.some.injEq, C.blk.injEq] at hc
    rename_i id' cx
    obtain ⟨x', hx, rfl, rfl⟩ := hc
    unfold den at h
    obtain ⟨q, hq, hr⟩ := Option.map_eq_some_iff.1 h
    refine wp_block (ihx cx hx _ s q hq ρ a w hR (hF.down 0) _ fun ρ1 a1 w1 h1 h2 => ?_)
    split at hr
    · rename_i he
      subst hr
      rw [he]
      show (if id' = id' then _ else _)
      rw [if_pos rfl]
      exact hQ ρ1 a1 w1 h1 (h2.up (under_cons 0 p))
    · rename_i he
      subst hr
      have := hQ ρ1 a1 w1 h1 (h2.up (under_cons 0 p))
      cases hq1 : q.1 with
      | norm => rw [hq1] at this; exact this
      | exit i2 =>
        rw [hq1] at this
        show (if i2 = id' then _ else _)
        rw [if_neg (fun e => he (by rw [hq1, e]))]
        exact this
      | ret => rw [hq1] at this; exact this
  | loop x ihx =>
    intro code hc p s r h ρ a w hR hF Q hQ
    cases code <;> simp only [cC, reduceCtorEq, Option.map_eq_some_iff, Option.bind_eq_some_iff, and_false, exists_false, Option.some.injEq, C.loop.injEq] at hc
    rename_i cx
    obtain ⟨x', hx, rfl⟩ := hc
    unfold den at h
    have key : ∀ (m j : Nat) (s : St) (r : Ex × St), itN m (fun j s => den call (itN n) H x' (j :: p) s) j s = some r → ∀ (ρ1 : Rho) (a : Act) (w : World), StR B0 w0 ρ1 nt H s a w → Ext p ρ ρ1 → (∀ k, j ≤ k → Fresh (k :: p) ρ1) →
        (∀ ρ' a' w', StR B0 w0 ρ' nt H r.2 a' w' → Ext p ρ ρ' → Q (exOf r.1) a' w') → Code.rounds P cx Q m a w := by
      intro m
      induction m with
      | zero => intro j s r h; cases h
      | succ m ih =>
        intro j s r h ρ1 a w hR hE hF hQ
        unfold itN at h
        obtain ⟨q, hq, h⟩ := Option.bind_eq_some_iff.1 h
        rw [rounds_succ]
        refine ihx cx hx _ s q hq ρ1 a w hR (hF j (Nat.le_refl _)) _ fun ρ2 a2 w2 h1 h2 => ?_
        split at h
        · rename_i hn
          rw [hn]
          refine ih (j + 1) q.2 r h ρ2 a2 w2 h1 (hE.trans (h2.up (under_cons j p))) (fun k hk nm hnm => ?_) hQ
          cases hcc : ρ2 nm with
          | none => rfl
          | some l => exact absurd (under_two hnm (h2.2 nm l hcc (hF k (by omega) nm hnm))) (by omega)
        · rename_i hn
          have hqr := Option.some.inj h
          have := hQ ρ2 a2 w2 (by rw [← hqr]; exact h1) (hE.trans (h2.up (under_cons j p)))
          rw [← hqr] at this
          cases hq1 : q.1 with
          | norm => exact absurd hq1 hn
          | exit id => rw [hq1] at this; exact this
          | ret => rw [hq1] at this; exact this
    exact wp_loop_rounds n (key n 0 s r h ρ a w hR (Ext.refl _ _) (fun k _ => hF.down k) hQ)

/-! ### Calls -/
def oneRes (tmps : Array Value) : ResultVar → Sem Value
  | .tmp t => pure (tmps.getD t undef)
  | .cell t ty => do loadVar ty (← asAddr (tmps.getD t undef))
theorem run_res {nt : Nat} {H : Heap} {ρ : Rho} {e : Env} {a : Act} {w : World} (hE : EnvR ρ nt e a) (hS : Sim B0 w0 ρ H w) {x : ResultVar} {r : R} (hr : cR P nt x = some r) {v : V} (hv : resV e H r = some v) :
    ∃ v', (oneRes a.tmps x).run P w = .ok v' w ∧ VR ρ v v' := by
  cases x with
  | tmp t =>
    simp only [cR] at hr
    split at hr <;> cases hr
    rename_i hlt
    cases hv
    exact ⟨_, rfl, hE.2 t hlt⟩
  | cell t ty =>
    simp only [cR] at hr
    split at hr
    · rename_i hlt
      obtain ⟨g, hg, rfl⟩ := Option.map_eq_some_iff.1 hr
      simp only [resV] at hv
      split at hv
      · rename_i n off e1
        obtain ⟨b, hb, hv⟩ := Option.bind_eq_some_iff.1 hv
        have h1 := hE.2 t hlt
        rw [e1] at h1
        obtain ⟨l, hl, hx⟩ := ptr_of h1
        obtain ⟨l', k1, k2⟩ := hS.blk n b hb
        rw [hl] at k1; cases k1
        obtain ⟨v', h3, h4⟩ := run_aggLoad (P := P) k2 hg hv
        exact ⟨v', by simp [oneRes, hx, asAddr, h3], h4⟩
      · cases hv
    · cases hr
theorem run_ress {nt : Nat} {H : Heap} {ρ : Rho} {e : Env} {a : Act} {w : World} (hE : EnvR ρ nt e a) (hS : Sim B0 w0 ρ H w) : ∀ (xs : List ResultVar) (rs : List R) (vs : List V), allOf (cR P nt) xs = some rs → resAll e H rs = some vs →
    ∃ vs', (xs.mapM (oneRes a.tmps)).run P w = .ok vs' w ∧ VRL ρ vs vs'
  | [], rs, vs, h, hv => by
    cases h; cases hv
    exact ⟨[], by simp, VRL.nil ρ⟩
  | x :: xs, rs, vs, h, hv => by
    simp only [allOf] at h
    obtain ⟨r, hr, h⟩ := Option.bind_eq_some_iff.1 h
    obtain ⟨rs', hrs, rfl⟩ := Option.map_eq_some_iff.1 h
    simp only [resAll] at hv
    obtain ⟨v, hv1, hv⟩ := Option.bind_eq_some_iff.1 hv
    obtain ⟨vs1, hvs, rfl⟩ := Option.map_eq_some_iff.1 hv
    obtain ⟨v', h1, h2⟩ := run_res hE hS hr hv1
    obtain ⟨vs', h3, h4⟩ := run_ress hE hS xs rs' vs1 hrs hvs
    exact ⟨v' :: vs', by rw [List.mapM_cons]; simp only [Sem.run_bind, h1, Result.andThen_ok, h3, Sem.run_pure], VRL.cons h2 h4⟩
theorem run_results {nt : Nat} {H : Heap} {ρ : Rho} {e : Env} {a : Act} {w : World} (hE : EnvR ρ nt e a) (hS : Sim B0 w0 ρ H w) {fn : Func} {rs : List R} {vs : List V} (h : allOf (cR P nt) fn.results.toList = some rs) (hv : resAll e H rs = some vs) :
    ∃ v', (results fn a.tmps).run P w = .ok v' w ∧ VR ρ (one vs) v' := by
  obtain ⟨vs', h1, h2⟩ := run_ress hE hS _ _ _ h hv
  have hm : (fn.results.mapM (oneRes a.tmps)).run P w = .ok vs'.toArray w := by
    rw [Array.mapM_eq_mapM_toList]
    simp only [Sem.run_map, h1, Result.andThen_ok]
  refine ⟨if h : vs'.toArray.size = 1 then vs'.toArray[0] else .tuple vs'.toArray, ?_, ?_⟩
  · have e1 : results fn a.tmps = (do let vs ← fn.results.mapM (oneRes a.tmps); pure (if h : vs.size = 1 then vs[0] else .tuple vs)) := by
      unfold results
      congr 1
    rw [e1]
    simp only [Sem.run_bind]
    rw [hm]
    rfl
  · by_cases hl : vs.length = 1
    · obtain ⟨v, rfl⟩ := List.length_eq_one_iff.1 hl
      obtain ⟨v', l', rfl, h3, h4⟩ := h2.head
      have : l' = [] := List.eq_nil_of_length_eq_zero (by have := h4.1; simpa using this.symm)
      subst this
      simpa [one] using h3
    · have : one vs = .tup vs := by
        unfold one; split
        · simp at hl
        · rfl
      rw [this, dif_neg (by have := h2.1; simp; omega)]
      exact VR.tup' h2
theorem call_ok (hg : Good P res ir) : ∀ k, CallOK P B0 w0 (callN ir k) ∧ CloOK P (callN ir k)
  | 0 => ⟨(fun f args p H r h => by cases h), (fun f args p H r h => by cases h)⟩
  | k + 1 => by
    obtain ⟨ih1, ih2⟩ := call_ok hg k
    refine ⟨fun f args p H r h ρ w args' hargs hS hF => ?_, fun f args p H r h => ?_⟩
    · unfold callN at h
      obtain ⟨F, hF', h⟩ := Option.bind_eq_some_iff.1 h
      obtain ⟨fn, hfn, hcF⟩ := hg.fn f F hF'
      unfold cF at hcF
      obtain ⟨code, hbody, hcF⟩ := Option.bind_eq_some_iff.1 hcF
      obtain ⟨c, hc, hcF⟩ := Option.bind_eq_some_iff.1 hcF
      obtain ⟨rs, hrs, hcF⟩ := Option.bind_eq_some_iff.1 hcF
      split at hcF <;> cases hcF
      rename_i hnp
      unfold body at h
      split at h
      · rename_i hlen
        simp only at hlen
        obtain ⟨q, hq, h⟩ := Option.bind_eq_some_iff.1 h
        have hsz : args'.size = args.length := by have := hargs.1; simp at this; omega
        have hR : StR B0 w0 ρ fn.ntmps H ⟨fun t => args.getD t undefV, []⟩ { tmps := args' ++ Array.replicate (fn.ntmps - args'.size) undef, defers := [] } w := by
          refine ⟨⟨by simp; omega, fun t ht => ?_⟩, rfl, hS⟩
          simp only [Array.getD_eq_getD_getElem?, List.getD_eq_getElem?_getD]
          by_cases hlt : t < args.length
          · rw [Array.getElem?_append_left (by omega)]
            rw [List.getElem?_eq_getElem hlt, Array.getElem?_eq_getElem (by omega)]
            exact hargs.2 t _ _ (List.getElem?_eq_getElem hlt) (by simp [hsz, hlt])
          · rw [Array.getElem?_append_right (by omega), List.getElem?_eq_none (by omega), Array.getElem?_replicate]
            split <;> exact VR.undef ρ
        refine calls_of_wp hfn hbody ?_
        refine den_ok ih1 ih2 hg.call (callN_mono ir k) hg.mixed c code hc _ _ q hq ρ _ w hR (hF.down 0) _ fun ρ' a' w' h1 h2 => ?_
        have fin : ∀ vs, resAll q.2.env (app H q.2.u) rs = some vs → (one vs, q.2.u) = r → a'.defers = [] ∧ ∃ v, (results fn a'.tmps).run P w' = .ok v w' ∧ Gives B0 w0 ρ H p r (.returned v) w' := fun vs hvs hr => by
          obtain ⟨v', h3, h4⟩ := run_results h1.env h1.sim hrs hvs
          refine ⟨h1.defers, v', h3, ρ', v', rfl, ?_, h2.up (under_cons 0 p), ?_⟩
          · rw [← hr]; exact h4
          · rw [← hr]; exact h1.sim
        cases hx : q.1 with
        | exit id => rw [hx] at h; cases h
        | norm =>
          rw [hx] at h
          simp only at h
          obtain ⟨vs, hvs, hr⟩ := Option.map_eq_some_iff.1 h
          exact fin vs hvs hr
        | ret =>
          rw [hx] at h
          simp only at h
          obtain ⟨vs, hvs, hr⟩ := Option.map_eq_some_iff.1 h
          exact fin vs hvs hr
      · cases h
    · unfold callN at h
      obtain ⟨F, hF', _⟩ := Option.bind_eq_some_iff.1 h
      exact hg.clo f F hF'
/-- **What the abstract machine answers, the machine answers.** -/
theorem sound (hg : Good P res ir) {f : Nat} {args : List V} {p : Nm} {H : Heap} {r : V × Upd} (h : Call ir f args p H = some r) {ρ : Rho} {w : World} {args' : Array Value} (ha : VRL ρ args args'.toList) (hS : Sim B0 w0 ρ H w) (hF : Fresh p ρ) :
    Calls P f args' w (Gives B0 w0 ρ H p r) := by
  obtain ⟨k, hk⟩ := Call_some h
  exact (call_ok hg k).1 f args p H r hk ρ w args' ha hS hF
end
end Go.Proofs.YtalnnbokmpppjaaAb
