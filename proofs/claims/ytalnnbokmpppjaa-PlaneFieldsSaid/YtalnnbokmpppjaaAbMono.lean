/- The abstract machine answers the same over a heap that knows more blocks, and with more rounds. -/
import Derived.Test.YtalnnbokmpppjaaAbDef
namespace Go.Proofs.YtalnnbokmpppjaaAb
open Go
set_option linter.unusedVariables false

def OLe {α : Type} (x y : Option α) : Prop := ∀ r, x = some r → y = some r
theorem OLe.refl {α : Type} (x : Option α) : OLe x x := fun _ h => h
theorem OLe.none {α : Type} (y : Option α) : OLe none y := fun _ h => nomatch h
theorem OLe.bind {α β : Type} {x y : Option α} {f g : α → Option β} (h : OLe x y) (k : ∀ a, OLe (f a) (g a)) : OLe (x.bind f) (y.bind g) := by
  intro r hr
  cases hx : x with
  | none => rw [hx] at hr; cases hr
  | some a => rw [hx] at hr; rw [h a hx]; exact k a r hr
theorem OLe.map {α β : Type} {x y : Option α} {f : α → β} (h : OLe x y) : OLe (x.map f) (y.map f) := by
  intro r hr
  cases hx : x with
  | none => rw [hx] at hr; cases hr
  | some a => rw [hx] at hr; rw [h a hx]; exact hr
theorem OLe.ite {α : Type} {c : Prop} [Decidable c] {x y x' y' : Option α} (h : OLe x y) (k : OLe x' y') : OLe (if c then x else x') (if c then y else y') := by
  split
  · exact h
  · exact k
theorem OLe.trans {α : Type} {x y z : Option α} (h : OLe x y) (k : OLe y z) : OLe x z := fun r hr => k r (h r hr)
def Le (H H1 : Heap) : Prop := ∀ n, OLe (H n) (H1 n)
theorem Le.refl (H : Heap) : Le H H := fun n => OLe.refl _
theorem Le.trans {H H1 H2 : Heap} (h : Le H H1) (k : Le H1 H2) : Le H H2 := fun n => (h n).trans (k n)
theorem Le.app {H H1 : Heap} (h : Le H H1) (u : Upd) : Le (app H u) (app H1 u) := by
  intro n; show OLe (match look u n with | some b => b | none => H n) (match look u n with | some b => b | none => H1 n); split
  · exact OLe.refl _
  · exact h n
def CLe (c c1 : CallF) : Prop := ∀ f a p H H1, Le H H1 → OLe (c f a p H) (c1 f a p H1)

theorem srcCells_mono {H H1 : Heap} (h : Le H H1) (esz n : Nat) (v : V) : OLe (srcCells H esz n v) (srcCells H1 esz n v) := by
  unfold srcCells
  split
  · exact OLe.refl _
  · exact OLe.refl _
  · exact OLe.ite (OLe.ite (OLe.refl _) (OLe.bind (h _) fun _ => OLe.refl _)) (OLe.refl _)
  · exact OLe.refl _
theorem evApp_mono {H H1 : Heap} (h : Le H H1) (p : Nm) (esz eb : Nat) (ik : Option IntKind) (x y : V) : OLe (evApp H p esz eb ik x y) (evApp H1 p esz eb ik x y) := by
  unfold evApp
  refine OLe.bind (OLe.refl _) fun n => OLe.bind (srcCells_mono h _ _ _) fun ys => ?_
  split
  · exact OLe.refl _
  · refine OLe.ite (OLe.refl _) (OLe.ite (OLe.refl _) (OLe.ite (OLe.refl _) (OLe.ite (OLe.ite (OLe.bind (h _) fun _ => OLe.refl _) (OLe.refl _)) (OLe.ite (OLe.bind (h _) fun _ => OLe.refl _) (OLe.bind (OLe.ite (OLe.refl _) (OLe.bind (h _) fun _ => OLe.refl _)) fun _ => OLe.refl _)))))
  · exact OLe.refl _
theorem evI_mono {c c1 : CallF} (hc : CLe c c1) {H H1 : Heap} (h : Le H H1) (e : Env) (p : Nm) (i : I) : OLe (evI c e H p i) (evI c1 e H1 p i) := by
  cases i
  case app => exact evApp_mono h _ _ _ _ _ _
  case call => exact hc _ _ _ _ _ h
  case callv =>
    simp only [evI]; split
    · exact hc _ _ _ _ _ h
    · exact OLe.refl _
  case load => simp only [evI]; split <;> first | exact OLe.refl _ | exact OLe.bind (h _) fun _ => OLe.refl _
  case store => simp only [evI]; split <;> first | exact OLe.refl _ | exact OLe.ite (OLe.bind (h _) fun _ => OLe.refl _) (OLe.refl _)
  case b2s => simp only [evI]; split <;> first | exact OLe.refl _ | exact OLe.ite (OLe.refl _) (OLe.bind (h _) fun _ => OLe.refl _)
  case nxt => simp only [evI]; split <;> first | exact OLe.refl _ | exact OLe.bind (h _) fun _ => OLe.refl _
  case copy =>
    simp only [evI]
    refine OLe.bind (OLe.refl _) fun n => ?_
    split <;> first | exact OLe.refl _ | exact OLe.ite (OLe.refl _) (OLe.bind (srcCells_mono h _ _ _) fun _ => OLe.bind (h _) fun _ => OLe.refl _)
  case subL =>
    simp only [evI]; split
    · exact OLe.refl _
    · exact OLe.bind (OLe.refl _) fun _ => OLe.bind (OLe.refl _) fun _ => OLe.bind (OLe.refl _) fun _ => OLe.ite (OLe.refl _) (OLe.ite (OLe.ite (OLe.refl _) (OLe.bind (h _) fun _ => OLe.refl _)) (OLe.refl _))
    · exact OLe.refl _
  all_goals exact OLe.refl _

theorem regT_mono {c c1 : CallF} (hc : CLe c c1) {H H1 : Heap} (h : Le H H1) (p : Nm) : ∀ (os : List O) (i : Nat) (s : St), OLe (regT c H p i os s) (regT c1 H1 p i os s)
  | [], _, _ => OLe.refl _
  | o :: os, i, s => by
    unfold regT
    exact OLe.ite (OLe.bind (evI_mono hc (h.app _) _ _ _) fun _ => regT_mono hc h p os _ _) (regT_mono hc h p os _ _)
theorem tidy_mono {H H1 : Heap} (h : Le H H1) (p : Nm) (u : Upd) (ht : tidy H p u = true) : tidy H1 p u = true := by
  unfold tidy at ht ⊢
  rw [List.all_eq_true] at ht ⊢
  intro q hq
  have h1 := ht q hq
  cases hu : under p q.1
  · rw [hu] at h1
    simp only [Bool.false_or] at h1 ⊢
    obtain ⟨b, hb⟩ := Option.isSome_iff_exists.1 h1
    rw [h _ _ hb]; rfl
  · rfl
theorem regD_mono {c c1 : CallF} (hc : CLe c c1) {H H1 : Heap} (h : Le H H1) (p : Nm) : ∀ (os : List O) (i : Nat) (e : Env) (us : List (Nat × Upd)), OLe (regD c H p i os e us) (regD c1 H1 p i os e us)
  | [], _, _, _ => OLe.refl _
  | o :: os, i, e, us => by
    unfold regD
    refine OLe.ite (OLe.bind (evI_mono hc (h.app _) _ _ _) fun r => ?_) (regD_mono hc h p os _ _ _)
    intro q hq
    split at hq
    · rename_i hs
      rw [if_pos]
      · exact regD_mono hc h p os _ _ _ q hq
      · rcases (Bool.or_eq_true _ _).mp hs with h1 | h1
        · simp [h1]
        · have h2 := (Bool.and_eq_true _ _).mp h1
          simp [h2.1, tidy_mono (h.app _) _ _ h2.2]
    · cases hq
def ILe (it it1 : Iter) : Prop := ∀ f f1 : Nat → St → Option (Ex × St), (∀ j s, OLe (f j s) (f1 j s)) → ∀ j s, OLe (it f j s) (it1 f1 j s)
theorem itN_mono : ∀ (k : Nat), ILe (itN k) (itN k)
  | 0, _, _, _, _, _ => OLe.none _
  | k + 1, f, f1, h, j, s => by
    unfold itN
    refine OLe.bind (h _ _) fun r => ?_
    split
    · exact itN_mono k f f1 h _ _
    · exact OLe.refl _
theorem itN_succ : ∀ (k : Nat), ILe (itN k) (itN (k + 1))
  | 0, _, _, _, _, _ => OLe.none _
  | k + 1, f, f1, h, j, s => by
    unfold itN
    refine OLe.bind (h _ _) fun r => ?_
    split
    · exact itN_succ k f f1 h _ _
    · exact OLe.refl _
theorem den_mono {c c1 : CallF} (hc : CLe c c1) {it it1 : Iter} (hi : ILe it it1) {H H1 : Heap} (h : Le H H1) : ∀ (a : C) (p : Nm) (s : St), OLe (den c it H a p s) (den c1 it1 H1 a p s)
  | .skip, _, _ => OLe.refl _
  | .reg false ops, p, s => OLe.map (regT_mono hc h p ops _ _)
  | .reg true ops, p, s => OLe.map (regD_mono hc (h.app _) p ops _ _ _)
  | .seq a b, p, s => by
    unfold den
    refine OLe.bind (den_mono hc hi h a _ _) fun r => ?_
    split
    · exact den_mono hc hi h b _ _
    · exact OLe.refl _
  | .cond x a b, p, s => by
    unfold den
    split
    · exact OLe.ite (den_mono hc hi h a _ _) (den_mono hc hi h b _ _)
    · exact OLe.refl _
  | .blk id a, p, s => OLe.map (den_mono hc hi h a _ _)
  | .loop a, p, s => hi _ _ (fun j s => den_mono hc hi h a _ _) _ _
  | .exit _, _, _ => OLe.refl _
  | .ret, _, _ => OLe.refl _
  | .bad, _, _ => OLe.refl _
theorem resV_mono {H H1 : Heap} (h : Le H H1) (e : Env) (r : R) : OLe (resV e H r) (resV e H1 r) := by
  cases r <;> simp only [resV]
  · exact OLe.refl _
  · split
    · exact OLe.bind (h _) fun _ => OLe.refl _
    · exact OLe.refl _
theorem resAll_mono {H H1 : Heap} (h : Le H H1) (e : Env) : ∀ rs, OLe (resAll e H rs) (resAll e H1 rs)
  | [] => OLe.refl _
  | r :: rs => OLe.bind (resV_mono h e r) fun _ => OLe.map (resAll_mono h e rs)
theorem body_mono {c c1 : CallF} (hc : CLe c c1) {it it1 : Iter} (hi : ILe it it1) {H H1 : Heap} (h : Le H H1) (f : F) (args : List V) (p : Nm) : OLe (body c it f args p H) (body c1 it1 f args p H1) := by
  unfold body
  refine OLe.ite (OLe.bind (den_mono hc hi h _ _ _) fun r => ?_) (OLe.refl _)
  split
  · exact OLe.refl _
  · exact OLe.map (resAll_mono (h.app _) _ _)
theorem callN_mono (ir : Nat → Option F) : ∀ k, CLe (callN ir k) (callN ir k)
  | 0, _, _, _, _, _, _ => OLe.none _
  | k + 1, f, a, p, H, H1, h => OLe.bind (OLe.refl _) fun fn => body_mono (callN_mono ir k) (itN_mono k) h fn a p
theorem callN_succ (ir : Nat → Option F) : ∀ k, CLe (callN ir k) (callN ir (k + 1))
  | 0, _, _, _, _, _, _ => OLe.none _
  | k + 1, f, a, p, H, H1, h => OLe.bind (OLe.refl _) fun fn => body_mono (callN_succ ir k) (itN_succ k) h fn a p
theorem CLe.trans {a b c : CallF} (h : CLe a b) (k : CLe b c) : CLe a c := fun f x p H H1 hl => (h f x p H H1 hl).trans (k f x p H1 H1 (Le.refl _))
theorem ILe.trans {a b c : Iter} (h : ILe a b) (k : ILe b c) : ILe a c := fun f f1 hf j s => (h f f1 hf j s).trans (k f1 f1 (fun _ _ => OLe.refl _) j s)
theorem callN_le (ir : Nat → Option F) {k m : Nat} (h : k ≤ m) : CLe (callN ir k) (callN ir m) := by
  induction h with
  | refl => exact callN_mono ir k
  | step _ ih => exact ih.trans (callN_succ ir _)
theorem itN_le {k m : Nat} (h : k ≤ m) : ILe (itN k) (itN m) := by
  induction h with
  | refl => exact itN_mono k
  | step _ ih => exact ih.trans (itN_succ _)

/-! ### Without a count of rounds -/
open Classical in
noncomputable def lim {α : Type} (f : Nat → Option α) : Option α := if h : ∃ k r, f k = some r then some h.choose_spec.choose else none
theorem lim_some {α : Type} {f : Nat → Option α} {r : α} (h : lim f = some r) : ∃ k, f k = some r := by
  unfold lim at h
  split at h
  · rename_i hh; exact ⟨_, by rw [hh.choose_spec.choose_spec]; exact h⟩
  · cases h
theorem some_lim {α : Type} {f : Nat → Option α} (hm : ∀ k m, k ≤ m → OLe (f k) (f m)) {k : Nat} {r : α} (h : f k = some r) : lim f = some r := by
  unfold lim
  have hh : ∃ k r, f k = some r := ⟨k, r, h⟩
  rw [dif_pos hh]
  have h2 := hh.choose_spec.choose_spec
  have e1 := hm k (max k hh.choose) (Nat.le_max_left _ _) r h
  have e2 := hm _ (max k hh.choose) (Nat.le_max_right _ _) _ h2
  rw [e1] at e2; exact e2.symm
noncomputable def Call (ir : Nat → Option F) : CallF := fun f a p H => lim fun k => callN ir k f a p H
noncomputable def it : Iter := fun f j s => lim fun k => itN k f j s
theorem Call_some {ir : Nat → Option F} {f a p H r} (h : Call ir f a p H = some r) : ∃ k, callN ir k f a p H = some r := lim_some h
theorem some_Call {ir : Nat → Option F} {k f a p H r} (h : callN ir k f a p H = some r) : Call ir f a p H = some r := some_lim (fun _ _ hk => callN_le ir hk _ _ _ _ _ (Le.refl _)) h
theorem it_some {f j s r} (h : it f j s = some r) : ∃ k, itN k f j s = some r := lim_some h
theorem some_it {k f j s r} (h : itN k f j s = some r) : it f j s = some r := some_lim (fun _ _ hk => itN_le hk _ _ (fun _ _ => OLe.refl _) _ _) h
/-- one round -/
theorem it_step {f : Nat → St → Option (Ex × St)} {j : Nat} {s s1 : St} {r} (h : f j s = some (.norm, s1)) (k : it f (j + 1) s1 = some r) : it f j s = some r := by
  obtain ⟨n, hn⟩ := it_some k
  exact some_it (k := n + 1) (by unfold itN; rw [h]; exact hn)
/-- the last round -/
theorem it_last {f : Nat → St → Option (Ex × St)} {j : Nat} {s s1 : St} {x : Ex} (h : f j s = some (x, s1)) (hx : x ≠ .norm) : it f j s = some (x, s1) :=
  some_it (k := 1) (by unfold itN; rw [h]; cases x <;> first | exact absurd rfl hx | rfl)
/-- rounds with an invariant -/
theorem it_inv {f : Nat → St → Option (Ex × St)} (I : Nat → St → Prop) (n : Nat) (Q : Ex → St → Prop)
    (hstep : ∀ j s, j < n → I j s → ∃ s1, f j s = some (.norm, s1) ∧ I (j + 1) s1)
    (hlast : ∀ s, I n s → ∃ x s1, f n s = some (x, s1) ∧ x ≠ .norm ∧ Q x s1) : ∀ d j s, n - j = d → j ≤ n → I j s → ∃ x s1, it f j s = some (x, s1) ∧ Q x s1
  | 0, j, s, hd, hj, h => by
    obtain rfl : j = n := by omega
    obtain ⟨x, s1, h1, h2, h3⟩ := hlast s h
    exact ⟨x, s1, it_last h1 h2, h3⟩
  | d + 1, j, s, hd, hj, h => by
    obtain ⟨s1, h1, h2⟩ := hstep j s (by omega) h
    obtain ⟨x, s2, h3, h4⟩ := it_inv I n Q hstep hlast d (j + 1) s1 (by omega) (by omega) h2
    exact ⟨x, s2, it_step h1 h3, h4⟩

/-! what the limit answers, some count answers -/
theorem evI_cont (ir : Nat → Option F) (e : Env) (H : Heap) (p : Nm) (i : I) {r} (h : evI (Call ir) e H p i = some r) : ∃ k, evI (callN ir k) e H p i = some r := by
  cases i
  case call => exact Call_some h
  case callv f xs =>
    simp only [evI] at h ⊢
    split at h
    · exact Call_some h
    · cases h
  all_goals exact ⟨0, h⟩
theorem regT_cont (ir : Nat → Option F) (H : Heap) (p : Nm) : ∀ (os : List O) (i : Nat) (s : St) {r}, regT (Call ir) H p i os s = some r → ∃ k, regT (callN ir k) H p i os s = some r
  | [], _, _, _, h => ⟨0, h⟩
  | o :: os, i, s, r, h => by
    unfold regT at h
    split at h
    · rename_i hw
      obtain ⟨q, hq, h2⟩ := Option.bind_eq_some_iff.1 h
      obtain ⟨k1, h1⟩ := evI_cont ir _ _ _ _ hq
      obtain ⟨k2, h2⟩ := regT_cont ir H p os _ _ h2
      refine ⟨max k1 k2, ?_⟩
      unfold regT
      rw [if_pos hw, evI_mono (callN_le ir (Nat.le_max_left k1 k2)) (Le.refl _) _ _ _ _ h1]
      exact regT_mono (callN_le ir (Nat.le_max_right k1 k2)) (Le.refl _) _ _ _ _ _ h2
    · rename_i hw
      obtain ⟨k2, h2⟩ := regT_cont ir H p os _ _ h
      exact ⟨k2, by unfold regT; rw [if_neg hw]; exact h2⟩
theorem regD_cont (ir : Nat → Option F) (H : Heap) (p : Nm) : ∀ (os : List O) (i : Nat) (e : Env) (us : List (Nat × Upd)) {r}, regD (Call ir) H p i os e us = some r → ∃ k, regD (callN ir k) H p i os e us = some r
  | [], _, _, _, _, h => ⟨0, h⟩
  | o :: os, i, e, us, r, h => by
    unfold regD at h
    split at h
    · rename_i hw
      obtain ⟨q, hq, h2⟩ := Option.bind_eq_some_iff.1 h
      split at h2
      · rename_i hs
        obtain ⟨k1, h1⟩ := evI_cont ir _ _ _ _ hq
        obtain ⟨k2, h2⟩ := regD_cont ir H p os _ _ _ h2
        refine ⟨max k1 k2, ?_⟩
        unfold regD
        rw [if_pos hw, evI_mono (callN_le ir (Nat.le_max_left k1 k2)) (Le.refl _) _ _ _ _ h1, Option.bind_some, if_pos hs]
        exact regD_mono (callN_le ir (Nat.le_max_right k1 k2)) (Le.refl _) _ _ _ _ _ _ h2
      · cases h2
    · rename_i hw
      obtain ⟨k2, h2⟩ := regD_cont ir H p os _ _ _ h
      exact ⟨k2, by unfold regD; rw [if_neg hw]; exact h2⟩
def Nc (ir : Nat → Option F) (H : Heap) (a : C) : Prop := ∀ p s r, den (Call ir) it H a p s = some r → ∃ k, den (callN ir k) (itN k) H a p s = some r
theorem den_up (ir : Nat → Option F) (H : Heap) (a : C) {k m : Nat} (h : k ≤ m) (p : Nm) (s : St) : OLe (den (callN ir k) (itN k) H a p s) (den (callN ir m) (itN m) H a p s) :=
  den_mono (callN_le ir h) (itN_le h) (Le.refl _) _ _ _
theorem it_cont (ir : Nat → Option F) (H : Heap) (a : C) (p : Nm) (ha : Nc ir H a) : ∀ (n j : Nat) (s : St) r, itN n (fun j s => den (Call ir) it H a (j :: p) s) j s = some r → ∃ k, itN k (fun j s => den (callN ir k) (itN k) H a (j :: p) s) j s = some r
  | 0, _, _, _, h => nomatch h
  | n + 1, j, s, r, h => by
    unfold itN at h
    obtain ⟨q, hq, h2⟩ := Option.bind_eq_some_iff.1 h
    obtain ⟨k1, h1⟩ := ha _ _ _ hq
    split at h2
    · rename_i hn
      obtain ⟨k2, h2⟩ := it_cont ir H a p ha n _ _ _ h2
      refine ⟨max k1 k2 + 1, ?_⟩
      unfold itN
      simp only []
      rw [den_up ir H a (by omega : k1 ≤ max k1 k2 + 1) _ _ _ h1, Option.bind_some]
      simp only [hn]
      exact (itN_le (by omega : k2 ≤ max k1 k2)) _ _ (fun j s => den_up ir H a (by omega) _ _) _ _ _ h2
    · rename_i hn
      cases h2
      refine ⟨k1 + 1, ?_⟩
      unfold itN
      simp only []
      rw [den_up ir H a (by omega : k1 ≤ k1 + 1) _ _ _ h1, Option.bind_some]
      split
      · rename_i h3; exact absurd h3 hn
      · rfl
theorem den_cont (ir : Nat → Option F) (H : Heap) : ∀ (a : C), Nc ir H a
  | .skip, _, _, _, h => ⟨0, h⟩
  | .reg false ops, p, s, r, h => by
    unfold den at h
    obtain ⟨q, hq, h2⟩ := Option.map_eq_some_iff.1 h
    obtain ⟨k, hk⟩ := regT_cont ir H p ops _ _ hq
    exact ⟨k, by unfold den; rw [hk]; exact congrArg some h2⟩
  | .reg true ops, p, s, r, h => by
    unfold den at h
    obtain ⟨q, hq, h2⟩ := Option.map_eq_some_iff.1 h
    obtain ⟨k, hk⟩ := regD_cont ir _ p ops _ _ _ hq
    exact ⟨k, by unfold den; rw [hk]; exact congrArg some h2⟩
  | .seq a b, p, s, r, h => by
    unfold den at h
    obtain ⟨q, hq, h2⟩ := Option.bind_eq_some_iff.1 h
    obtain ⟨k1, h1⟩ := den_cont ir H a _ _ _ hq
    split at h2
    · rename_i hn
      obtain ⟨k2, h2⟩ := den_cont ir H b _ _ _ h2
      refine ⟨max k1 k2, ?_⟩
      unfold den
      rw [den_up ir H a (Nat.le_max_left k1 k2) _ _ _ h1, Option.bind_some]
      simp only [hn]
      exact den_up ir H b (Nat.le_max_right k1 k2) _ _ _ h2
    · rename_i hn
      refine ⟨k1, ?_⟩
      unfold den
      rw [h1, Option.bind_some]
      split
      · rename_i h3; exact absurd h3 hn
      · exact h2
  | .cond x a b, p, s, r, h => by
    unfold den at h
    split at h
    · rename_i t hx
      split at h
      · rename_i ht
        obtain ⟨k, hk⟩ := den_cont ir H a _ _ _ h
        exact ⟨k, by unfold den; simp only [hx]; rw [if_pos ht]; exact hk⟩
      · rename_i ht
        obtain ⟨k, hk⟩ := den_cont ir H b _ _ _ h
        exact ⟨k, by unfold den; simp only [hx]; rw [if_neg ht]; exact hk⟩
    · cases h
  | .blk id a, p, s, r, h => by
    unfold den at h
    obtain ⟨q, hq, h2⟩ := Option.map_eq_some_iff.1 h
    obtain ⟨k, hk⟩ := den_cont ir H a _ _ _ hq
    exact ⟨k, by unfold den; rw [hk]; exact congrArg some h2⟩
  | .loop a, p, s, r, h => by
    unfold den at h
    obtain ⟨n, hn⟩ := it_some h
    obtain ⟨k, hk⟩ := it_cont ir H a p (den_cont ir H a) n 0 s r hn
    exact ⟨k, by unfold den; exact hk⟩
  | .exit _, _, _, _, h => ⟨0, h⟩
  | .ret, _, _, _, h => ⟨0, h⟩
  | .bad, _, _, _, h => ⟨0, h⟩
/-- how a call is opened -/
theorem Call_open {ir : Nat → Option F} {f : Nat} {fn : F} (hf : ir f = some fn) {args : List V} {p : Nm} {H : Heap} {r} (h : body (Call ir) it fn args p H = some r) : Call ir f args p H = some r := by
  unfold body at h
  split at h
  · rename_i hl
    obtain ⟨q, hq, h2⟩ := Option.bind_eq_some_iff.1 h
    obtain ⟨k, hk⟩ := den_cont ir H fn.body _ _ _ hq
    refine some_Call (k := k + 1) ?_
    unfold callN
    rw [hf, Option.bind_some]
    unfold body
    rw [if_pos hl, hk]
    exact h2
  · cases h
end Go.Proofs.YtalnnbokmpppjaaAb
