/- Regions, code and calls. -/
import Derived.Test.YtalnnbokmpppjaaAbSound
import Derived.Orders
namespace Go.Proofs.YtalnnbokmpppjaaAb
open Go Go.RowKit
set_option linter.unusedVariables false
set_option linter.unusedSimpArgs false
section
variable {P : Program} {res : Nat → Option Nat} {B0 : Nat} {w0 : World} {ir : Nat → Option F}
/-- the abstract form of one operation -/
structure OpR (P : Program) (res : Nat → Option Nat) (nt : Nat) (ops : Array Oper) (o : Oper) (q : O) : Prop where
  op : (cI P res nt o.op).getD .bad = q.op
  dst : q.dst = o.dst
  lt : ∀ t, o.dst = some t → t < nt
  guard : cGuard nt ops o.guard = some q.guard
theorem cOps_spec {nt : Nat} {ops : Array Oper} : ∀ (l : List Oper) (acc m : List O), cOps P res nt ops l acc = some m →
    ∃ m2, m = acc ++ m2 ∧ m2.length = l.length ∧ (∀ (i : Nat) o q, l[i]? = some o → m2[i]? = some q → OpR P res nt ops o q ∧ q.pre = preBits (m.take (acc.length + i)) o.after.toList)
  | [], acc, m, h => by cases h; exact ⟨[], by simp, rfl, fun i o q h => by simp at h⟩
  | o :: l, acc, m, h => by
    simp only [cOps] at h
    rw [Option.bind_some] at h
    obtain ⟨g, hg, h⟩ := Option.bind_eq_some_iff.1 h
    split at h
    · rename_i hd
      obtain ⟨m2, rfl, hl, hm⟩ := cOps_spec l _ m h
      refine ⟨⟨o.dst, (cI P res nt o.op).getD .bad, g, preBits acc o.after.toList, false⟩ :: m2, by simp, by simp [hl], fun j o' q' ho hq => ?_⟩
      cases j with
      | zero =>
        simp at ho hq
        subst ho; subst hq
        refine ⟨⟨rfl, rfl, fun t ht => by rw [ht] at hd; simpa [cDst] using hd, hg⟩, ?_⟩
        simp
      | succ j =>
        simp at ho hq
        obtain ⟨h1, h2⟩ := hm j o' q' ho hq
        refine ⟨h1, ?_⟩
        rw [h2]; congr 2
        simp; omega
    · cases h
theorem wanted_R {nt : Nat} {ops : Array Oper} {o : Oper} {q : O} (h : OpR P res nt ops o q) {ρ : Rho} {e : Env} {a : Act} (hE : EnvR ρ nt e a) : Region.wanted o (yielded ops a.tmps) = wantedV e q.guard := by
  have hg := h.guard
  unfold Region.wanted
  cases hog : o.guard with
  | none => rw [hog] at hg; simp only [cGuard, Option.some.injEq] at hg; rw [← hg]; rfl
  | some jb =>
    obtain ⟨j, b⟩ := jb
    rw [hog] at hg
    simp only [cGuard] at hg
    obtain ⟨t, ht, hg⟩ := Option.bind_eq_some_iff.1 hg
    split at hg
    · rename_i hlt
      simp only [Option.some.injEq] at hg
      rw [← hg]
      simp only [wantedV, yielded, ht, Option.bind_some]
      have hv := hE.2 t hlt
      have hsz : t < a.tmps.size := by rw [hE.1]; exact hlt
      rw [Array.getD_eq_getD_getElem?, Array.getElem?_eq_getElem hsz, Option.getD_some] at hv
      rw [Array.getElem?_eq_getElem hsz]
      generalize a.tmps[t] = x at hv
      generalize e t = y at hv
      cases hv <;> simp
    · cases hg
/-- the relation of states -/
structure StR (B0 : Nat) (w0 : World) (ρ : Rho) (nt : Nat) (H : Heap) (s : St) (a : Act) (w : World) : Prop where
  env : EnvR ρ nt s.env a
  defers : a.defers = []
  sim : Sim B0 w0 ρ (app H s.u) w
theorem put_defers (a : Act) (d : Option Tmp) (v : Value) : (a.put d v).defers = a.defers := by cases d <;> rfl
theorem app_app (H : Heap) (u v : Upd) : app (app H u) v = app H (v ++ u) := (app_append H v u).symm
theorem regT_ok {call : CallF} (hcall : CallOK P B0 w0 call) (hclo : CloOK P call) (hres : ∀ f g, res f = some g → ∀ args w, (callFunc f args).run P w = .ok (.enter g args) w) {nt : Nat} {ops : Array Oper} {H : Heap} {p : Nm} {Q : Exit → Act → World → Prop} {s' : St} : ∀ (os : List O) (i : Nat) (s : St), regT call H p i os s = some s' →
    (∀ (k : Nat) q, os[k]? = some q → ∃ o, ops[i + k]? = some o ∧ OpR P res nt ops o q) → ∀ (ρ : Rho) (a : Act) (w : World), StR B0 w0 ρ nt H s a w → (∀ k, i ≤ k → Fresh (k :: p) ρ) →
    (∀ ρ' a' w', StR B0 w0 ρ' nt H s' a' w' → Ext p ρ ρ' → Q .normal a' w') → wpOps P ops Q (List.range' i os.length) a w
  | [], i, s, h, _, ρ, a, w, hR, _, hQ => by
    cases h
    exact hQ ρ a w hR (Ext.refl _ _)
  | q :: os, i, s, h, hops, ρ, a, w, hR, hF, hQ => by
    obtain ⟨o, ho, hor⟩ := hops 0 q rfl
    simp only [Nat.add_zero] at ho
    have hops' : ∀ (k : Nat) q, os[k]? = some q → ∃ o, ops[i + 1 + k]? = some o ∧ OpR P res nt ops o q := fun k q' hq => by
      have := hops (k + 1) q' (by simpa using hq)
      rwa [show i + (k + 1) = i + 1 + k by omega] at this
    rw [List.length_cons, List.range'_succ]
    simp only [wpOps, ho]
    rw [wanted_R hor hR.env]
    unfold regT at h
    split
    · rename_i hw
      rw [if_pos hw] at h
      obtain ⟨r, hr, h⟩ := Option.bind_eq_some_iff.1 h
      refine .inl (op_ok hcall hclo hres hor.op hR.env hR.sim (hF i (Nat.le_refl _)) hr fun w' ρ' v' h1 h2 h3 => ?_)
      refine regT_ok hcall hclo hres os (i + 1) _ h hops' ρ' _ w' ⟨by rw [hor.dst]; exact (hR.env.ext h2).put' _ hor.lt h1, by rw [put_defers]; exact hR.defers, by rw [← app_app]; exact h3⟩ (fun k hk n hn => ?_) (fun ρ2 a2 w2 h4 h5 => hQ ρ2 a2 w2 h4 ((h2.up (under_cons i p)).trans h5))
      cases hc : ρ' n with
      | none => rfl
      | some l => exact absurd (under_two hn (h2.2 n l hc (hF k (by omega) n hn))) (by omega)
    · rename_i hw
      rw [if_neg hw] at h
      refine regT_ok hcall hclo hres os (i + 1) _ h hops' ρ _ w ⟨by rw [hor.dst]; exact hR.env.put' _ hor.lt (VR.undef ρ), by rw [put_defers]; exact hR.defers, hR.sim⟩ (fun k hk => hF k (by omega)) hQ
/-- the edges of each operation -/
def EdgesR (ops : Array Oper) (os : List O) : Prop := ∀ (i : Nat) o, ops[i]? = some o → (∀ g ∈ o.after, Region.binds .any g = true → (preOf os i).testBit g.on = true) ∧ ∀ j, (preOf os i).testBit j = true → ∃ g ∈ o.after, Region.binds .any g = true ∧ (g.on = j ∨ (preOf os g.on).testBit j = true)
def SetR (ops : Array Oper) (S : Nat → Bool) : Prop := ∀ j, S j = true → j < ops.size ∧ ∀ o, ops[j]? = some o → ∀ g ∈ o.after, Region.binds .any g = true → S g.on = true
theorem closed_pre {ops : Array Oper} {os : List O} (hE : EdgesR ops os) (hok : regOK os = true) {S : Nat → Bool} (hS : SetR ops S) :
    ∀ i, S i = true → ∀ j, (preOf os i).testBit j = true → S j = true := by
  intro i
  induction i using Nat.strongRecOn with
  | _ i ih =>
    intro hi j hj
    have hlt := (hS i hi).1
    have ho : ops[i]? = some ops[i] := Array.getElem?_eq_getElem hlt
    obtain ⟨g, hg, hb, h⟩ := (hE i _ ho).2 j hj
    have hgo := (hS i hi).2 _ ho g hg hb
    rcases h with rfl | h
    · exact hgo
    · exact ih g.on (pre_lt hok ((hE i _ ho).1 g hg hb)) hgo j h
def listS (listed : Array Bool) : Nat → Bool := fun j => listed.getD j false
theorem listS_set {listed : Array Bool} {i : Nat} (hi : i < listed.size) (j : Nat) : listS (listed.setIfInBounds i true) j = (listS listed j || j == i) := by
  unfold listS
  by_cases h : i = j
  · subst h; simp [Array.getD_eq_getD_getElem?, hi]
  · rw [getD_set_ne false h]
    have : (j == i) = false := by simpa using Ne.symm h
    rw [this, Bool.or_false]
theorem count_set : ∀ (l : List Bool) (i : Nat), l[i]? = some false → ((l.set i true).filter (! ·)).length + 1 = (l.filter (! ·)).length
  | [], i, h => by simp at h
  | b :: l, 0, h => by simp at h; subst h; simp
  | b :: l, i + 1, h => by
    have := count_set l i (by simpa using h)
    rw [List.set_cons_succ]
    cases b <;> simp [List.filter_cons] <;> omega
/-- whatever order is drawn -/
theorem regD_ok {call : CallF} (hcall : CallOK P B0 w0 call) (hclo : CloOK P call) (hres : ∀ f g, res f = some g → ∀ args w, (callFunc f args).run P w = .ok (.enter g args) w) {nt : Nat} {ops : Array Oper} {os : List O} {H : Heap} {p : Nm} {e0 : Env} {Q : Exit → Act → World → Prop} (hops : ∀ (k : Nat) q, os[k]? = some q → ∃ o, ops[k]? = some o ∧ OpR P res nt ops o q) (hlen : os.length = ops.size) (hEd : EdgesR ops os) (hR : RegH call H p os e0)
    {ρ0 : Rho} (hF0 : Fresh p ρ0)
    (hQ : ∀ ρ' a' w', EnvR ρ' nt (EE os (fun i => (rsD call H p os e0 i).1) e0 (fun _ => true) os.length) a' → a'.defers = [] → Sim B0 w0 ρ' (app H (UU (fun i => (rsD call H p os e0 i).2) (fun _ => true) os.length)) w' → Ext p ρ0 ρ' → Q .normal a' w') :
    ∀ (fuel : Nat) (listed : Array Bool) (ρ : Rho) (a : Act) (w : World), listed.size = ops.size → SetR ops (listS listed) → (listed.toList.filter (! ·)).length ≤ fuel →
      EnvR ρ nt (EE os (fun i => (rsD call H p os e0 i).1) e0 (listS listed) os.length) a → a.defers = [] → Sim B0 w0 ρ (app H (UU (fun i => (rsD call H p os e0 i).2) (listS listed) os.length)) w → Ext p ρ0 ρ → (∀ k, listS listed k = false → Fresh (k :: p) ρ) →
      wpAny P .any ops Q fuel listed a w := by
  have fin : ∀ (listed : Array Bool) (ρ : Rho) (a : Act) (w : World), listed.size = ops.size → SetR ops (listS listed) → Region.ready .any ops listed = [] →
      EnvR ρ nt (EE os (fun i => (rsD call H p os e0 i).1) e0 (listS listed) os.length) a → a.defers = [] → Sim B0 w0 ρ (app H (UU (fun i => (rsD call H p os e0 i).2) (listS listed) os.length)) w → Ext p ρ0 ρ → Q .normal a w := by
    intro listed ρ a w hsz hS hr h1 h2 h3 h4
    have all : ∀ i, i < ops.size → listS listed i = true := by
      intro i
      induction i using Nat.strongRecOn with
      | _ i ih =>
        intro hi
        cases hc : listS listed i with
        | true => rfl
        | false =>
          exfalso
          have ho : ops[i]? = some ops[i] := Array.getElem?_eq_getElem hi
          have : i ∈ Region.ready .any ops listed := by
            rw [mem_ready]
            refine ⟨?_, _, ho, fun g hg hb => ?_⟩
            · have hlt : i < listed.size := by omega
              unfold listS at hc
              simp only [Array.getD_eq_getD_getElem?, Array.getElem?_eq_getElem hlt, Option.getD_some] at hc ⊢
              exact hc
            · have hbit := pre_lt hR.ok ((hEd i _ ho).1 g hg hb)
              exact ih g.on hbit (by omega)
          rw [hr] at this; cases this
    have hS' : ∀ j, j < os.length → listS listed j = (fun _ => true) j := fun j hj => all j (by omega)
    refine hQ ρ a w ?_ h2 ?_ h4
    · rw [← EE_congr os.length hS']; exact h1
    · rw [← UU_congr os.length hS']; exact h3
  intro fuel
  induction fuel with
  | zero =>
    intro listed ρ a w hsz hS hf h1 h2 h3 h4 h5
    have hr : Region.ready .any ops listed = [] := by
      apply List.eq_nil_iff_forall_not_mem.2
      intro i hi
      rw [mem_ready] at hi
      obtain ⟨h0, o, ho, _⟩ := hi
      have hlt : i < listed.size := by have := (Array.getElem?_eq_some_iff.1 ho).1; omega
      simp only [Array.getD_eq_getD_getElem?, Array.getElem?_eq_getElem hlt, Option.getD_some] at h0
      have : false ∈ listed.toList.filter (! ·) := by
        rw [List.mem_filter]
        refine ⟨?_, rfl⟩
        rw [← h0]; simp
      have h6 := List.length_pos_of_mem this
      omega
    exact ⟨hr, fin listed ρ a w hsz hS hr h1 h2 h3 h4⟩
  | succ fuel ih =>
    intro listed ρ a w hsz hS hf h1 h2 h3 h4 h5
    refine ⟨fun hr => fin listed ρ a w hsz hS hr h1 h2 h3 h4, fun i hi => ?_⟩
    rw [mem_ready] at hi
    obtain ⟨h0, o, ho, hedge⟩ := hi
    have hio : i < ops.size := (Array.getElem?_eq_some_iff.1 ho).1
    have hlt : i < listed.size := by omega
    have hSi : listS listed i = false := by
      unfold listS
      simp only [Array.getD_eq_getD_getElem?, Array.getElem?_eq_getElem hlt, Option.getD_some] at h0 ⊢
      exact h0
    have hq : os[i]? = some os[i] := List.getElem?_eq_getElem (by omega)
    obtain ⟨o', ho', hor⟩ := hops i _ hq
    rw [ho] at ho'; cases ho'
    have hpre : ∀ k, (preOf os i).testBit k = true → listS listed k = true := fun k hk => by
      obtain ⟨g, hg, hb, h⟩ := (hEd i _ ho).2 k hk
      have hgl : listS listed g.on = true := hedge g hg hb
      rcases h with rfl | h
      · exact hgl
      · exact closed_pre hEd hR.ok hS g.on hgl k h
    have hCl : Cl os (listS listed) := fun j hj => ⟨by have := (hS j hj).1; omega, fun k hk => closed_pre hEd hR.ok hS j hj k hk⟩
    obtain ⟨s1, s2, s3⟩ := reg_step hR hCl hq hSi hpre
    have hSet : SetR ops (listS (listed.setIfInBounds i true)) := fun j hj => by
      rw [listS_set hlt] at hj
      rcases (Bool.or_eq_true _ _).mp hj with h | h
      · refine ⟨(hS j h).1, fun o' ho' g hg hb => ?_⟩
        rw [listS_set hlt, (hS j h).2 o' ho' g hg hb]; rfl
      · have : j = i := by simpa using h
        subst this
        refine ⟨hio, fun o' ho' g hg hb => ?_⟩
        rw [ho] at ho'; cases ho'
        have : listS listed g.on = true := hedge g hg hb
        rw [listS_set hlt, this]; rfl
    have hcount : ((listed.setIfInBounds i true).toList.filter (! ·)).length ≤ fuel := by
      have := count_set listed.toList i (by
        simp only [Array.getD_eq_getD_getElem?, Array.getElem?_eq_getElem hlt, Option.getD_some] at h0
        rw [← h0]; simp [hlt])
      rw [Array.toList_setIfInBounds]; omega
    have hfun : listS (listed.setIfInBounds i true) = fun j => listS listed j || j == i := funext fun j => listS_set hlt j
    have next : ∀ (ρ' : Rho) (w' : World) (v' : Value), VR ρ' (rsD call H p os e0 i).1 v' → Ext (i :: p) ρ ρ' → Sim B0 w0 ρ' (app (app H (UU (fun i => (rsD call H p os e0 i).2) (listS listed) os.length)) (rsD call H p os e0 i).2) w' →
        wpAny P .any ops Q fuel (listed.setIfInBounds i true) (a.put o.dst v') w' := fun ρ' w' v' k1 k2 k3 => by
      refine ih _ ρ' _ w' (by simpa using hsz) hSet hcount ?_ (by rw [put_defers]; exact h2) ?_ (h4.trans (k2.up (under_cons i p))) (fun k hk n hn => ?_)
      · rw [hfun, s2, hor.dst]; exact (h1.ext k2).put' _ hor.lt k1
      · rw [hfun, s3]; exact k3
      · rw [listS_set hlt] at hk
        simp only [Bool.or_eq_false_iff] at hk
        cases hc : ρ' n with
        | none => rfl
        | some l =>
          have := under_two hn (k2.2 n l hc (h5 k hk.1 n hn))
          rw [this] at hk
          simp at hk
    unfold wpOp
    simp only [ho]
    rw [wanted_R hor h1]
    simp only at s1
    split
    · rename_i hw
      rw [if_pos hw] at s1
      exact .inl (op_ok hcall hclo hres hor.op h1 h3 (h5 i hSi) s1 fun w' ρ' v' k1 k2 k3 => next ρ' w' v' k1 k2 k3)
    · rename_i hw
      rw [if_neg hw] at s1
      refine next ρ w undef ?_ (Ext.refl _ _) ?_
      · rw [s1.1]; exact VR.undef ρ
      · rw [s1.2]; exact h3
end
end Go.Proofs.YtalnnbokmpppjaaAb
