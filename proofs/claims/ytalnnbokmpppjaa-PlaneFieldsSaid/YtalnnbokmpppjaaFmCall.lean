/- Calls: what is handed in and what is handed back. -/
import Derived.Test.YtalnnbokmpppjaaFmWr
namespace Go.Proofs.YtalnnbokmpppjaaAb
open Go
set_option linter.unusedVariables false
set_option linter.unusedSimpArgs false
inductive LR (R : FV → V → List Lc → Prop) : List FV → List V → List Lc → Prop where
  | nil : LR R [] [] []
  | cons {v : FV} {v' : V} {l : List FV} {l' : List V} {ws ws' : List Lc} (h : R v v' ws) (k : LR R l l' ws') : LR R (v :: l) (v' :: l') (ws ++ ws')
def OwnB (I : Im) (H : Heap) (lc : Lc) (ik : Option IntKind) (esz : Nat) (c : List FV) : Prop := ∃ b, H lc.n = some b ∧ BRel rh0 I lc (.row 0 false true ik esz c) b
def rh1 (lc : Lc) : Rh := fun _ _ => some lc
inductive R1 (ls : List Lc) (I : Im) (H : Heap) : FV → V → List Lc → Prop where
  | tree {v : FV} {v' : V} (h : VF rh0 I v v') : R1 ls I H v v' []
  | own {ik : Option IntKind} {esz n : Nat} {c : List FV} {v' : V} {lc : Lc} (hb : OwnB I H lc ik esz c) (hv : VF (rh1 lc) I (.ref 0 0 0 n) v') : R1 ls I H (.own ik esz n c) v' [lc]
  | optr {ik : Option IntKind} {esz : Nat} {c : List FV} {lc : Lc} (hb : OwnB I H lc ik esz c) : R1 ls I H (.optr ik esz c) (.ptr lc.n lc.base) [lc]
  | aref {k o n : Nat} {v' : V} {lc : Lc} (hl : ls[k]? = some lc) (hv : VF (rh1 lc) I (.ref 0 0 o n) v') : R1 ls I H (.aref k o n) v' []
  | aptr {k o : Nat} {lc : Lc} (hl : ls[k]? = some lc) : R1 ls I H (.aptr k o) (.ptr lc.n (lc.base + o)) []
inductive R2 (ls : List Lc) (I : Im) (H : Heap) : FV → V → List Lc → Prop where
  | one {v : FV} {v' : V} {ws : List Lc} (h : R1 ls I H v v' ws) : R2 ls I H v v' ws
  | agg {l : List FV} {l' : List V} {ws : List Lc} (h : LR (R1 ls I H) l l' ws) : R2 ls I H (.agg l) (.agg l') ws
inductive R3 (ls : List Lc) (I : Im) (H : Heap) : FV → V → List Lc → Prop where
  | two {v : FV} {v' : V} {ws : List Lc} (h : R2 ls I H v v' ws) : R3 ls I H v v' ws
  | tup {l : List FV} {l' : List V} {ws : List Lc} (h : LR (R2 ls I H) l l' ws) : R3 ls I H (.tup l) (.tup l') ws
theorem LR.of {R : FV → V → List Lc → Prop} {l : List FV} {l' : List V} (h : PW (fun a b => R a b []) l l') : LR R l l' [] := by
  induction l generalizing l' with
  | nil => rw [PW.nil' h]; exact .nil
  | cons v l ih =>
    obtain ⟨v', m, rfl, h1, h2⟩ := h.head
    exact .cons (ws := []) (ws' := []) h1 (ih h2)
theorem LR.imp {R S : FV → V → List Lc → Prop} {l : List FV} {l' : List V} {ws : List Lc} (h : LR R l l' ws) (k : ∀ v v' ws, R v v' ws → S v v' ws) : LR S l l' ws := by
  induction h with
  | nil => exact .nil
  | cons h _ ih => exact .cons (k _ _ _ h) ih
theorem R2.agg_inv {ls : List Lc} {I : Im} {H : Heap} {l : List FV} {v' : V} {ws : List Lc} (h : R2 ls I H (.agg l) v' ws) : ∃ l', v' = .agg l' ∧ LR (R1 ls I H) l l' ws := by
  cases h with
  | one h =>
    cases h with
    | tree h =>
      obtain ⟨m, rfl, hm⟩ := agg_f h
      exact ⟨m, rfl, LR.of (hm.imp fun _ _ k => .tree k)⟩
  | agg h => exact ⟨_, rfl, h⟩
theorem R3.tup_inv {ls : List Lc} {I : Im} {H : Heap} {l : List FV} {v' : V} {ws : List Lc} (h : R3 ls I H (.tup l) v' ws) : ∃ l', v' = .tup l' ∧ LR (R2 ls I H) l l' ws := by
  cases h with
  | two h =>
    cases h with
    | one h =>
      cases h with
      | tree h =>
        obtain ⟨m, rfl, hm⟩ := tup_f h
        exact ⟨m, rfl, LR.of (hm.imp fun _ _ k => .one (.tree k))⟩
  | tup h => exact ⟨_, rfl, h⟩
theorem R2.one_inv {ls : List Lc} {I : Im} {H : Heap} {v : FV} {v' : V} {ws : List Lc} (h : R2 ls I H v v' ws) (hv : ∀ l, v ≠ .agg l) : R1 ls I H v v' ws := by
  cases h with
  | one h => exact h
  | agg h => exact absurd rfl (hv _)
theorem R3.two_inv {ls : List Lc} {I : Im} {H : Heap} {v : FV} {v' : V} {ws : List Lc} (h : R3 ls I H v v' ws) (hv : ∀ l, v ≠ .tup l) : R2 ls I H v v' ws := by
  cases h with
  | two h => exact h
  | tup h => exact absurd rfl (hv _)
/-- what is known of the blocks that a call makes of what is handed over -/
def NewU (I : Im) (H : Heap) (g : Nat) (u : FUpd) (ws : List Lc) : Prop := PW (fun x lc => ∃ ik esz c, x.2 = some (.row g false true ik esz c) ∧ OwnB I H lc ik esz c) u ws
def AtU (ρ : Rh) (g : Nat) (u : FUpd) (ws : List Lc) : Prop := PW (fun x lc => ρ x.1 g = some lc) u ws
def AtT (ρ : Rh) (ts : List (Nat × FB)) (ls : List Lc) : Prop := ∀ (k : Nat) x lc, ts[k]? = some x → ls[k]? = some lc → ρ x.1 x.2.g = some lc
def Nms (d : Nat) (k : Nat) (u : FUpd) : Prop := ∀ (j : Nat) x, u[j]? = some x → x.1 = d + step * (k + j)
theorem VF.at1 {I : Im} {lc : Lc} {o n : Nat} {v' : V} (h : VF (rh1 lc) I (.ref 0 0 o n) v') {ρ : Rh} {d g : Nat} (hρ : ρ d g = some lc) : VF ρ I (.ref d g o n) v' := by
  obtain ⟨lc', o', cap, opn, h1, rfl, h2, h3, h4, h5, h6, h7⟩ := ref_f h
  cases h1
  exact .ref hρ h2 h3 h4 h5 h6 h7
theorem VF.to1 {I : Im} {lc : Lc} {o n : Nat} {v' : V} {ρ : Rh} {d g : Nat} (h : VF ρ I (.ref d g o n) v') (hρ : ρ d g = some lc) : VF (rh1 lc) I (.ref 0 0 o n) v' := by
  obtain ⟨lc', o', cap, opn, h1, rfl, h2, h3, h4, h5, h6, h7⟩ := ref_f h
  rw [hρ] at h1; cases h1
  exact .ref (ρ := rh1 lc) (lc := lc) rfl h2 h3 h4 h5 h6 h7
section
variable {ls : List Lc} {I : Im} {H : Heap} {ts : List (Nat × FB)} {d g : Nat}
theorem Nms.append {k : Nat} {u v : FUpd} (h : Nms d k u) (h2 : Nms d (k + u.length) v) : Nms d k (u ++ v) := fun j x hx => by
  by_cases hj : j < u.length
  · rw [List.getElem?_append_left hj] at hx; exact h j x hx
  · rw [List.getElem?_append_right (by omega)] at hx
    have := h2 _ x hx
    rw [this]; congr 2; omega
theorem AtU.split {ρ : Rh} {u v : FUpd} {ws ws' : List Lc} (h : AtU ρ g (u ++ v) (ws ++ ws')) (hl : u.length = ws.length) : AtU ρ g u ws ∧ AtU ρ g v ws' := by
  have h1 := h.take u.length
  have h2 := h.drop u.length
  rw [List.take_left, hl, List.take_left] at h1
  rw [List.drop_left, hl, List.drop_left] at h2
  exact ⟨h1, h2⟩
theorem th1_ok {v : FV} {v' : V} {ws : List Lc} (h : R1 ls I H v v' ws) {k : Nat} {r} (ht : th1 ts d g k v = some r) :
    NewU I H g r.2.1 ws ∧ r.2.2 = k + ws.length ∧ Nms d k r.2.1 ∧ ∀ ρ, AtU ρ g r.2.1 ws → AtT ρ ts ls → ts.length = ls.length → VF ρ I r.1 v' := by
  cases h with
  | tree h =>
    have : th1 ts d g k v = some (v, [], k) := by cases h <;> rfl
    rw [this] at ht; cases ht
    exact ⟨PW.nil, rfl, fun j x hx => by simp at hx, fun ρ _ _ _ => h.ext (ExR.zero _) (ExI.refl _)⟩
  | own hb hv =>
    cases ht
    exact ⟨PW.cons ⟨_, _, _, rfl, hb⟩ PW.nil, rfl, fun j x hx => by cases j <;> simp at hx; subst hx; rfl, fun ρ h1 _ _ => hv.at1 (h1.2 0 _ _ rfl rfl)⟩
  | @optr _ _ _ lc hb =>
    cases ht
    refine ⟨PW.cons ⟨_, _, _, rfl, hb⟩ PW.nil, rfl, fun j x hx => by cases j <;> simp at hx; subst hx; rfl, fun ρ h1 _ _ => ?_⟩
    exact VF.ptr (lc := lc) 0 (h1.2 0 _ _ rfl rfl)
  | aref hl hv =>
    simp only [th1] at ht
    obtain ⟨q, hq, rfl⟩ := Option.map_eq_some_iff.1 ht
    exact ⟨PW.nil, rfl, fun j x hx => by simp at hx, fun ρ _ h2 _ => hv.at1 (h2 _ _ _ hq hl)⟩
  | aptr hl =>
    simp only [th1] at ht
    obtain ⟨q, hq, rfl⟩ := Option.map_eq_some_iff.1 ht
    exact ⟨PW.nil, rfl, fun j x hx => by simp at hx, fun ρ _ h2 _ => .ptr _ (h2 _ _ _ hq hl)⟩
theorem th1L_ok {l : List FV} {l' : List V} {ws : List Lc} (h : LR (R1 ls I H) l l' ws) : ∀ {k : Nat} {r}, th1L ts d g k l = some r →
    NewU I H g r.2.1 ws ∧ r.2.2 = k + ws.length ∧ Nms d k r.2.1 ∧ ∀ ρ, AtU ρ g r.2.1 ws → AtT ρ ts ls → ts.length = ls.length → VFL ρ I r.1 l' := by
  induction h with
  | nil => intro k r ht; cases ht; exact ⟨PW.nil, rfl, fun j x hx => by simp at hx, fun ρ _ _ _ => PW.nil⟩
  | cons h _ ih =>
    intro k r ht
    simp only [th1L] at ht
    obtain ⟨q, hq, ht⟩ := Option.bind_eq_some_iff.1 ht
    obtain ⟨s, hs, rfl⟩ := Option.map_eq_some_iff.1 ht
    obtain ⟨a1, a2, a3, a4⟩ := th1_ok h hq
    obtain ⟨b1, b2, b3, b4⟩ := ih hs
    refine ⟨a1.append b1, by rw [b2, a2]; simp; omega, a3.append (by rw [a1.1, ← a2]; exact b3), fun ρ h1 h2 h3 => ?_⟩
    obtain ⟨c1, c2⟩ := AtU.split h1 a1.1
    exact PW.cons (a4 ρ c1 h2 h3) (b4 ρ c2 h2 h3)
theorem th2_ok {v : FV} {v' : V} {ws : List Lc} (h : R2 ls I H v v' ws) {k : Nat} {r} (ht : th2 ts d g k v = some r) :
    NewU I H g r.2.1 ws ∧ r.2.2 = k + ws.length ∧ Nms d k r.2.1 ∧ ∀ ρ, AtU ρ g r.2.1 ws → AtT ρ ts ls → ts.length = ls.length → VF ρ I r.1 v' := by
  unfold th2 at ht
  split at ht
  · obtain ⟨l', rfl, hl⟩ := h.agg_inv
    obtain ⟨q, hq, rfl⟩ := Option.map_eq_some_iff.1 ht
    obtain ⟨b1, b2, b3, b4⟩ := th1L_ok hl hq
    exact ⟨b1, b2, b3, fun ρ h1 h2 h3 => .agg' (b4 ρ h1 h2 h3)⟩
  · rename_i hne
    exact th1_ok (h.one_inv fun l e => hne l e) ht
theorem th2L_ok {l : List FV} {l' : List V} {ws : List Lc} (h : LR (R2 ls I H) l l' ws) : ∀ {k : Nat} {r}, th2L ts d g k l = some r →
    NewU I H g r.2.1 ws ∧ r.2.2 = k + ws.length ∧ Nms d k r.2.1 ∧ ∀ ρ, AtU ρ g r.2.1 ws → AtT ρ ts ls → ts.length = ls.length → VFL ρ I r.1 l' := by
  induction h with
  | nil => intro k r ht; cases ht; exact ⟨PW.nil, rfl, fun j x hx => by simp at hx, fun ρ _ _ _ => PW.nil⟩
  | cons h _ ih =>
    intro k r ht
    simp only [th2L] at ht
    obtain ⟨q, hq, ht⟩ := Option.bind_eq_some_iff.1 ht
    obtain ⟨s, hs, rfl⟩ := Option.map_eq_some_iff.1 ht
    obtain ⟨a1, a2, a3, a4⟩ := th2_ok h hq
    obtain ⟨b1, b2, b3, b4⟩ := ih hs
    refine ⟨a1.append b1, by rw [b2, a2]; simp; omega, a3.append (by rw [a1.1, ← a2]; exact b3), fun ρ h1 h2 h3 => ?_⟩
    obtain ⟨c1, c2⟩ := AtU.split h1 a1.1
    exact PW.cons (a4 ρ c1 h2 h3) (b4 ρ c2 h2 h3)
theorem th_ok {v : FV} {v' : V} {ws : List Lc} (h : R3 ls I H v v' ws) {r} (ht : th ts d g v = some r) :
    NewU I H g r.2 ws ∧ Nms d 0 r.2 ∧ ∀ ρ, AtU ρ g r.2 ws → AtT ρ ts ls → ts.length = ls.length → VF ρ I r.1 v' := by
  unfold th at ht
  split at ht
  · obtain ⟨l', rfl, hl⟩ := h.tup_inv
    obtain ⟨q, hq, rfl⟩ := Option.map_eq_some_iff.1 ht
    obtain ⟨b1, b2, b3, b4⟩ := th2L_ok hl hq
    exact ⟨b1, b3, fun ρ h1 h2 h3 => .tup' (b4 ρ h1 h2 h3)⟩
  · rename_i hne
    obtain ⟨q, hq, rfl⟩ := Option.map_eq_some_iff.1 ht
    obtain ⟨b1, b2, b3, b4⟩ := th2_ok (h.two_inv fun l e => hne l e) hq
    exact ⟨b1, b3, b4⟩
end
/-! ### Many blocks at once -/
def locOf (ρ : Rh) (e : Nat × Option FB) : Option Lc := e.2.bind fun fb => ρ e.1 fb.g
theorem fapp_some {L : FHeap} {d : Nat} {fb : FB} : ∀ {E : FUpd}, fapp L E d = some fb → (d, some fb) ∈ E ∨ (L d = some fb ∧ flook E d = none)
  | [], h => .inr ⟨h, rfl⟩
  | (m, b) :: E, h => by
    rw [fapp_cons] at h
    replace h : (if d = m then b else fapp L E d) = some fb := h
    by_cases e : d = m
    · rw [if_pos e] at h; subst e; rw [h]; exact .inl (by simp)
    · rw [if_neg e] at h
      rcases fapp_some h with h | ⟨h1, h2⟩
      · exact .inl (List.mem_cons_of_mem _ h)
      · exact .inr ⟨h1, by simp only [flook]; rw [if_neg e]; exact h2⟩
section
variable {W : Nm → Prop} {ρ : Rh} {I : Im} {L : FHeap} {H : Heap} {n : Nat}
theorem Rl.ents (h : Rl W ρ I L H n) {E : FUpd} (ok : ∀ d fb, (d, some fb) ∈ E → ∃ lc b, ρ d fb.g = some lc ∧ fb.fz = false ∧ H lc.n = some b ∧ BRel ρ I lc fb b ∧ I lc.n = none ∧ W lc.n)
    (dist : ∀ d fb d' fb' lc lc', (d, some fb) ∈ E → (d', some fb') ∈ E → d ≠ d' → ρ d fb.g = some lc → ρ d' fb'.g = some lc' → lc.n ≠ lc'.n)
    (oth : ∀ d fb d' fb' lc lc', (d, some fb) ∈ E → L d' = some fb' → flook E d' = none → ρ d fb.g = some lc → ρ d' fb'.g = some lc' → lc.n ≠ lc'.n) : Rl W ρ I (fapp L E) H n := by
  refine ⟨h.gen, fun d fb k => ?_, fun d d' fb fb' lc lc' k k' hne e e' => ?_, h.imm, fun d fb lc k hf e => ?_⟩
  · rcases fapp_some k with k | ⟨k, _⟩
    · obtain ⟨lc, b, h1, h2, h3, h4, _⟩ := ok d fb k
      exact ⟨lc, b, h1, h3, h4⟩
    · exact h.blk d fb k
  · rcases fapp_some k with k | ⟨k, x⟩ <;> rcases fapp_some k' with k' | ⟨k', x'⟩
    · exact dist d fb d' fb' lc lc' k k' hne e e'
    · exact oth d fb d' fb' lc lc' k k' x' e e'
    · exact fun q => oth d' fb' d fb lc' lc k' k x e' e q.symm
    · exact h.inj d d' fb fb' lc lc' k k' hne e e'
  · rcases fapp_some k with k | ⟨k, _⟩
    · obtain ⟨lc', b, h1, h2, h3, h4, h5, h6⟩ := ok d fb k
      rw [e] at h1; cases h1
      exact ⟨h5, h6⟩
    · exact h.wr d fb lc k hf e
theorem Rl.heap (h : Rl W ρ I L H n) {H' : Heap} {I' : Im} {ρ' : Rh} {n' : Nat} (hr : ExR ρ ρ') (hn : ∀ d g lc, ρ' d g = some lc → g < n') (hI : ExI I I') (himm : ∀ m b, I' m = some b → H' m = some b)
    (hH : ∀ d fb lc, L d = some fb → ρ d fb.g = some lc → H' lc.n = H lc.n) (hw : ∀ d fb lc, L d = some fb → fb.fz = false → ρ d fb.g = some lc → I' lc.n = none) : Rl W ρ' I' L H' n' := by
  have old : ∀ d fb lc, L d = some fb → ρ' d fb.g = some lc → ρ d fb.g = some lc := fun d fb lc k e => by
    obtain ⟨lc', b, h1, _⟩ := h.blk d fb k
    rw [hr _ _ _ h1] at e; cases e; exact h1
  refine ⟨hn, fun d fb k => ?_, fun d d' fb fb' lc lc' k k' hne e e' => h.inj d d' fb fb' lc lc' k k' hne (old _ _ _ k e) (old _ _ _ k' e'), himm, fun d fb lc k hf e => ⟨hw d fb lc k hf (old _ _ _ k e), (h.wr d fb lc k hf (old _ _ _ k e)).2⟩⟩
  obtain ⟨lc, b, h1, h2, h3⟩ := h.blk d fb k
  exact ⟨lc, b, hr _ _ _ h1, by rw [hH d fb lc k h1]; exact h2, h3.ext hr hI⟩
/-! ### What is handed in -/
inductive S1 (ρ : Rh) (I : Im) : FV → V → List (Nat × FB) → Prop where
  | plain {v : FV} {v' : V} (h : VF ρ I v v') : S1 ρ I v v' []
  | own {d g n esz : Nat} {ik : Option IntKind} {c : List FV} {v' : V} (hv : VF ρ I (.ref d g 0 n) v') : S1 ρ I (.own ik esz n c) v' [(d, .row g false true ik esz c)]
  | optr {d g esz : Nat} {tr : Bool} {ik : Option IntKind} {c : List FV} {v' : V} (hv : VF ρ I (.ptr d g 0) v') : S1 ρ I (.optr ik esz c) v' [(d, .row g false tr ik esz c)]
inductive LS {α β τ : Type} (R : α → β → List τ → Prop) : List α → List β → List τ → Prop where
  | nil : LS R [] [] []
  | cons {v : α} {v' : β} {l : List α} {l' : List β} {ws ws' : List τ} (h : R v v' ws) (k : LS R l l' ws') : LS R (v :: l) (v' :: l') (ws ++ ws')
theorem LS.of {α β τ : Type} {R : α → β → List τ → Prop} {l : List α} {l' : List β} (h : PW (fun a b => R a b []) l l') : LS R l l' [] := by
  induction l generalizing l' with
  | nil => rw [PW.nil' h]; exact .nil
  | cons v l ih =>
    obtain ⟨v', m, rfl, h1, h2⟩ := h.head
    exact .cons (ws := []) (ws' := []) h1 (ih h2)
inductive S2 (ρ : Rh) (I : Im) : FV → V → List (Nat × FB) → Prop where
  | one {v : FV} {v' : V} {ts : List (Nat × FB)} (h : S1 ρ I v v' ts) : S2 ρ I v v' ts
  | agg {l : List FV} {l' : List V} {ts : List (Nat × FB)} (h : LS (S1 ρ I) l l' ts) : S2 ρ I (.agg l) (.agg l') ts
/-- the blocks ts are taken out of L -/
structure Tkn (L L1 : FHeap) (ts : List (Nat × FB)) : Prop where
  le : ∀ d fb, L1 d = some fb → L d = some fb
  eq : ∀ d, (∀ x ∈ ts, x.1 ≠ d) → L1 d = L d
  live : ∀ x ∈ ts, L x.1 = some x.2 ∧ x.2.fz = false ∧ L1 x.1 = none
  nodup : (ts.map (·.1)).Nodup
theorem Tkn.nil (L : FHeap) : Tkn L L [] := ⟨fun _ _ h => h, fun _ _ => rfl, (fun x h => by cases h), List.nodup_nil⟩
theorem Tkn.append {L L1 L2 : FHeap} {a b : List (Nat × FB)} (h : Tkn L L1 a) (k : Tkn L1 L2 b) : Tkn L L2 (a ++ b) := by
  refine ⟨fun d fb e => h.le d fb (k.le d fb e), fun d hd => ?_, fun x hx => ?_, ?_⟩
  · rw [k.eq d (fun x hx => hd x (List.mem_append_right _ hx)), h.eq d (fun x hx => hd x (List.mem_append_left _ hx))]
  · rcases List.mem_append.1 hx with hx | hx
    · obtain ⟨h1, h2, h3⟩ := h.live x hx
      refine ⟨h1, h2, ?_⟩
      cases hc : L2 x.1 with
      | none => rfl
      | some fb => have := k.le _ _ hc; rw [h3] at this; cases this
    · obtain ⟨h1, h2, h3⟩ := k.live x hx
      exact ⟨h.le _ _ h1, h2, h3⟩
  · rw [List.map_append, List.nodup_append]
    refine ⟨h.nodup, k.nodup, fun x hx y hy e => ?_⟩
    obtain ⟨p, hp, rfl⟩ := List.mem_map.1 hx
    obtain ⟨q, hq, rfl⟩ := List.mem_map.1 hy
    have h1 := (h.live p hp).2.2
    have h2 := (k.live q hq).1
    rw [e, h2] at h1; cases h1
theorem Tkn.one {d : Nat} {fb : FB} (h : L d = some fb) (hf : fb.fz = false) : Tkn L (drop1 L d) [(d, fb)] := by
  refine ⟨fun x f k => ?_, fun x hx => ?_, fun x hx => ?_, by simp⟩
  · unfold drop1 at k; split at k; cases k; exact k
  · have := hx _ (List.mem_singleton.2 rfl)
    unfold drop1; rw [if_neg (fun e => this e.symm)]
  · simp only [List.mem_singleton] at hx
    subst hx
    exact ⟨h, hf, by unfold drop1; rw [if_pos rfl]⟩
theorem tk_ok {v : FV} {v' : V} (hv : VF ρ I v v') {r} (ht : tk L v = some r) : S1 ρ I r.1 v' r.2.1 ∧ Tkn L r.2.2 r.2.1 := by
  unfold tk at ht
  split at ht
  · split at ht
    · rename_i d g o m _ g' fr tr ik esz c hL
      split at ht <;> cases ht
      rename_i e
      obtain ⟨rfl, rfl, rfl, e1, e2⟩ := e
      subst e2
      exact ⟨.own hv, Tkn.one hL rfl⟩
    · cases ht
  · split at ht
    · rename_i d g o _ g' fr tr ik esz c hL
      split at ht <;> cases ht
      rename_i e
      obtain ⟨rfl, rfl, rfl⟩ := e
      exact ⟨.optr hv, Tkn.one hL rfl⟩
    · cases ht
  · cases ht
    exact ⟨.plain hv, Tkn.nil L⟩
theorem tkL_ok : ∀ {l : List FV} {l' : List V} {L : FHeap}, VFL ρ I l l' → ∀ {r}, tkL L l = some r → LS (S1 ρ I) r.1 l' r.2.1 ∧ Tkn L r.2.2 r.2.1
  | [], l', L, h, r, ht => by cases ht; rw [PW.nil' h]; exact ⟨.nil, Tkn.nil L⟩
  | v :: l, l', L, h, r, ht => by
    simp only [tkL] at ht
    obtain ⟨q, hq, ht⟩ := Option.bind_eq_some_iff.1 ht
    obtain ⟨s, hs, rfl⟩ := Option.map_eq_some_iff.1 ht
    obtain ⟨v', m, rfl, h1, h2⟩ := h.head
    obtain ⟨a1, a2⟩ := tk_ok h1 hq
    obtain ⟨b1, b2⟩ := tkL_ok h2 hs
    exact ⟨.cons a1 b1, a2.append b2⟩
theorem tkA_ok {v : FV} {v' : V} (hv : VF ρ I v v') {r} (ht : tkA L v = some r) : S2 ρ I r.1 v' r.2.1 ∧ Tkn L r.2.2 r.2.1 := by
  unfold tkA at ht
  split at ht
  · obtain ⟨q, hq, rfl⟩ := Option.map_eq_some_iff.1 ht
    obtain ⟨m, rfl, hm⟩ := agg_f hv
    obtain ⟨a1, a2⟩ := tkL_ok hm hq
    exact ⟨.agg a1, a2⟩
  · obtain ⟨a1, a2⟩ := tk_ok hv ht
    exact ⟨.one a1, a2⟩
theorem tkAll_ok {ms : List Nat} : ∀ {l : List FV} {l' : List V} {i : Nat} {L : FHeap}, VFL ρ I l l' → ∀ {r}, tkAll ms i L l = some r → LS (S2 ρ I) r.1 l' r.2.1 ∧ Tkn L r.2.2 r.2.1
  | [], l', i, L, h, r, ht => by cases ht; rw [PW.nil' h]; exact ⟨.nil, Tkn.nil L⟩
  | v :: l, l', i, L, h, r, ht => by
    simp only [tkAll] at ht
    obtain ⟨q, hq, ht⟩ := Option.bind_eq_some_iff.1 ht
    obtain ⟨s, hs, rfl⟩ := Option.map_eq_some_iff.1 ht
    obtain ⟨v', m, rfl, h1, h2⟩ := h.head
    have a : S2 ρ I q.1 v' q.2.1 ∧ Tkn L q.2.2 q.2.1 := by
      split at hq
      · exact tkA_ok h1 hq
      · cases hq; exact ⟨.one (.plain h1), Tkn.nil L⟩
    obtain ⟨b1, b2⟩ := tkAll_ok h2 hs
    exact ⟨.cons a.1 b1, a.2.append b2⟩
end
end Go.Proofs.YtalnnbokmpppjaaAb
