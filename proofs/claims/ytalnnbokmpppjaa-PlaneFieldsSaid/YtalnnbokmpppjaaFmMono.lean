/- The functional machine without a count of rounds. -/
import Derived.Test.YtalnnbokmpppjaaFmBody
namespace Go.Proofs.YtalnnbokmpppjaaAb
open Go
set_option linter.unusedVariables false
def FLe (c c1 : FCallF) : Prop := ∀ f a, OLe (c f a) (c1 f a)
theorem fCall_mono {c c1 : FCallF} (hc : FLe c c1) (sg : Sg) (L : FHeap) (d g f : Nat) (args : List FV) : OLe (fCall c sg L d g f args) (fCall c1 sg L d g f args) :=
  OLe.bind (OLe.refl _) fun _ => OLe.bind (OLe.refl _) fun _ => OLe.bind (hc _ _) fun _ => OLe.refl _
theorem fvI_mono {c c1 : FCallF} (hc : FLe c c1) (sg : Sg) (e : FEnv) (L : FHeap) (d g : Nat) (i : I) : OLe (fvI c sg e L d g i) (fvI c1 sg e L d g i) := by
  cases i
  case call => exact fCall_mono hc _ _ _ _ _ _
  case callv =>
    simp only [fvI]; split
    · exact fCall_mono hc _ _ _ _ _ _
    · exact OLe.refl _
  all_goals exact OLe.refl _
theorem fregT_mono {c c1 : FCallF} (hc : FLe c c1) (sg : Sg) : ∀ (os : List O) (s : FSt), OLe (fregT c sg os s) (fregT c1 sg os s)
  | [], _ => OLe.refl _
  | o :: os, s => by
    unfold fregT
    refine OLe.bind (OLe.refl _) fun w => OLe.ite (OLe.bind (fvI_mono hc _ _ _ _ _ _) fun r => fregT_mono hc sg os _) (fregT_mono hc sg os _)
theorem fregD_mono {c c1 : FCallF} (hc : FLe c c1) (sg : Sg) : ∀ (os : List O) (i : Nat) (Wl : List (Nat × Nat)) (s : FSt), OLe (fregD c sg i os Wl s) (fregD c1 sg i os Wl s)
  | [], _, _, _ => OLe.refl _
  | o :: os, i, Wl, s => by
    unfold fregD
    refine OLe.bind (OLe.refl _) fun w => OLe.ite (OLe.bind (fvI_mono hc _ _ _ _ _ _) fun r => OLe.ite (fregD_mono hc sg os _ _ _) (OLe.refl _)) (fregD_mono hc sg os _ _ _)
def FIe (it it1 : FIter) : Prop := ∀ f f1 : FSt → Option (Ex × FSt), (∀ s, OLe (f s) (f1 s)) → ∀ s, OLe (it f s) (it1 f1 s)
theorem fitN_mono : ∀ (k : Nat), FIe (fitN k) (fitN k)
  | 0, _, _, _, _ => OLe.none _
  | k + 1, f, f1, h, s => by
    unfold fitN
    refine OLe.bind (h _) fun r => ?_
    split
    · exact fitN_mono k f f1 h _
    · exact OLe.refl _
theorem fitN_succ : ∀ (k : Nat), FIe (fitN k) (fitN (k + 1))
  | 0, _, _, _, _ => OLe.none _
  | k + 1, f, f1, h, s => by
    unfold fitN
    refine OLe.bind (h _) fun r => ?_
    split
    · exact fitN_succ k f f1 h _
    · exact OLe.refl _
theorem fden_mono {c c1 : FCallF} (hc : FLe c c1) {it it1 : FIter} (hi : FIe it it1) (sg : Sg) : ∀ (a : C) (s : FSt), OLe (fden c sg it a s) (fden c1 sg it1 a s)
  | .skip, _ => OLe.refl _
  | .reg false ops, s => OLe.map (fregT_mono hc sg ops _)
  | .reg true ops, s => OLe.map (fregD_mono hc sg ops _ _ _)
  | .seq a b, s => by
    unfold fden
    refine OLe.bind (fden_mono hc hi sg a _) fun r => ?_
    split
    · exact fden_mono hc hi sg b _
    · exact OLe.refl _
  | .cond x a b, s => by
    unfold fden
    split
    · exact OLe.ite (fden_mono hc hi sg a _) (fden_mono hc hi sg b _)
    · exact OLe.refl _
  | .blk id a, s => OLe.map (fden_mono hc hi sg a _)
  | .loop a, s => hi _ _ (fun s => fden_mono hc hi sg a _) _
  | .exit _, _ => OLe.refl _
  | .ret, _ => OLe.refl _
  | .bad, _ => OLe.refl _
theorem fbody_mono {c c1 : FCallF} (hc : FLe c c1) {it it1 : FIter} (hi : FIe it it1) (sg : Sg) (f : F) (args : List FV) : OLe (fbody c sg it f args) (fbody c1 sg it1 f args) := by
  unfold fbody
  refine OLe.ite (OLe.bind (OLe.refl _) fun a => OLe.bind (fden_mono hc hi sg _ _) fun r => ?_) (OLe.refl _)
  exact OLe.refl _
theorem FLe.trans {a b c : FCallF} (h : FLe a b) (k : FLe b c) : FLe a c := fun f x => (h f x).trans (k f x)
theorem FIe.trans {a b c : FIter} (h : FIe a b) (k : FIe b c) : FIe a c := fun f f1 hf s => (h f f1 hf s).trans (k f1 f1 (fun _ => OLe.refl _) s)
theorem fcallN_succ (ir : Nat → Option F) (sg : Sg) : ∀ k, FLe (fcallN ir sg k) (fcallN ir sg (k + 1))
  | 0, _, _ => OLe.none _
  | k + 1, f, a => OLe.bind (OLe.refl _) fun fn => fbody_mono (fcallN_succ ir sg k) (fitN_succ k) sg fn a
theorem fcallN_le (ir : Nat → Option F) (sg : Sg) {k m : Nat} (h : k ≤ m) : FLe (fcallN ir sg k) (fcallN ir sg m) := by
  induction h with
  | refl => exact fun _ _ => OLe.refl _
  | step _ ih => exact ih.trans (fcallN_succ ir sg _)
theorem fitN_le {k m : Nat} (h : k ≤ m) : FIe (fitN k) (fitN m) := by
  induction h with
  | refl => exact fitN_mono k
  | step _ ih => exact ih.trans (fitN_succ _)
noncomputable def FC (ir : Nat → Option F) (sg : Sg) : FCallF := fun f a => lim fun k => fcallN ir sg k f a
noncomputable def fit : FIter := fun f s => lim fun k => fitN k f s
theorem FC_some {ir : Nat → Option F} {sg : Sg} {f a r} (h : FC ir sg f a = some r) : ∃ k, fcallN ir sg k f a = some r := lim_some h
theorem some_FC {ir : Nat → Option F} {sg : Sg} {k f a r} (h : fcallN ir sg k f a = some r) : FC ir sg f a = some r := some_lim (fun _ _ hk => fcallN_le ir sg hk _ _) h
theorem fit_some {f s r} (h : fit f s = some r) : ∃ k, fitN k f s = some r := lim_some h
theorem some_fit {k f s r} (h : fitN k f s = some r) : fit f s = some r := some_lim (fun _ _ hk => fitN_le hk _ _ (fun _ => OLe.refl _) _) h
theorem fit_step {f : FSt → Option (Ex × FSt)} {s s1 : FSt} {r} (h : f s = some (.norm, s1)) (k : fit f s1 = some r) : fit f s = some r := by
  obtain ⟨n, hn⟩ := fit_some k
  exact some_fit (k := n + 1) (by unfold fitN; rw [h]; exact hn)
theorem fit_last {f : FSt → Option (Ex × FSt)} {s s1 : FSt} {x : Ex} (h : f s = some (x, s1)) (hx : x ≠ .norm) : fit f s = some (x, s1) :=
  some_fit (k := 1) (by unfold fitN; rw [h]; cases x <;> first | exact absurd rfl hx | rfl)
section
variable (ir : Nat → Option F) (sg : Sg)
theorem fCall_cont {L : FHeap} {d g f : Nat} {args : List FV} {r} (h : fCall (FC ir sg) sg L d g f args = some r) : ∃ k, fCall (fcallN ir sg k) sg L d g f args = some r := by
  unfold fCall at h
  obtain ⟨t, ht, h⟩ := Option.bind_eq_some_iff.1 h
  obtain ⟨z, hz, h⟩ := Option.bind_eq_some_iff.1 h
  obtain ⟨c, hc, h⟩ := Option.bind_eq_some_iff.1 h
  obtain ⟨k, hk⟩ := FC_some hc
  refine ⟨k, ?_⟩
  unfold fCall
  rw [ht, Option.bind_some, hz, Option.bind_some, hk, Option.bind_some]
  exact h
theorem fvI_cont (e : FEnv) (L : FHeap) (d g : Nat) (i : I) {r} (h : fvI (FC ir sg) sg e L d g i = some r) : ∃ k, fvI (fcallN ir sg k) sg e L d g i = some r := by
  cases i
  case call => exact fCall_cont ir sg h
  case callv f xs =>
    simp only [fvI] at h ⊢
    split at h
    · exact fCall_cont ir sg h
    · cases h
  all_goals exact ⟨0, h⟩
theorem fregT_cont : ∀ (os : List O) (s : FSt) {r}, fregT (FC ir sg) sg os s = some r → ∃ k, fregT (fcallN ir sg k) sg os s = some r
  | [], _, _, h => ⟨0, h⟩
  | o :: os, s, r, h => by
    unfold fregT at h
    obtain ⟨w, hw, h⟩ := Option.bind_eq_some_iff.1 h
    cases w with
    | true =>
      simp only [if_true] at h
      obtain ⟨q, hq, h2⟩ := Option.bind_eq_some_iff.1 h
      obtain ⟨k1, h1⟩ := fvI_cont ir sg _ _ _ _ _ hq
      obtain ⟨k2, h2⟩ := fregT_cont os _ h2
      refine ⟨max k1 k2, ?_⟩
      unfold fregT
      rw [hw, Option.bind_some]
      simp only [if_true]
      rw [fvI_mono (fcallN_le ir sg (Nat.le_max_left k1 k2)) _ _ _ _ _ _ _ h1]
      exact fregT_mono (fcallN_le ir sg (Nat.le_max_right k1 k2)) _ _ _ _ h2
    | false =>
      simp only [Bool.false_eq_true, if_false] at h
      obtain ⟨k2, h2⟩ := fregT_cont os _ h
      refine ⟨k2, ?_⟩
      unfold fregT
      rw [hw, Option.bind_some]
      simp only [Bool.false_eq_true, if_false]
      exact h2
theorem fregD_cont : ∀ (os : List O) (i : Nat) (Wl : List (Nat × Nat)) (s : FSt) {r}, fregD (FC ir sg) sg i os Wl s = some r → ∃ k, fregD (fcallN ir sg k) sg i os Wl s = some r
  | [], _, _, _, _, h => ⟨0, h⟩
  | o :: os, i, Wl, s, r, h => by
    unfold fregD at h
    obtain ⟨w, hw, h⟩ := Option.bind_eq_some_iff.1 h
    cases w with
    | true =>
      simp only [if_true] at h
      obtain ⟨q, hq, h2⟩ := Option.bind_eq_some_iff.1 h
      split at h2
      case isFalse => cases h2
      rename_i hs
      obtain ⟨k1, h1⟩ := fvI_cont ir sg _ _ _ _ _ hq
      obtain ⟨k2, h2⟩ := fregD_cont os _ _ _ h2
      refine ⟨max k1 k2, ?_⟩
      unfold fregD
      rw [hw, Option.bind_some]
      simp only [if_true]
      rw [fvI_mono (fcallN_le ir sg (Nat.le_max_left k1 k2)) _ _ _ _ _ _ _ h1, Option.bind_some, if_pos hs]
      exact fregD_mono (fcallN_le ir sg (Nat.le_max_right k1 k2)) _ _ _ _ _ _ h2
    | false =>
      simp only [Bool.false_eq_true, if_false] at h
      obtain ⟨k2, h2⟩ := fregD_cont os _ _ _ h
      refine ⟨k2, ?_⟩
      unfold fregD
      rw [hw, Option.bind_some]
      simp only [Bool.false_eq_true, if_false]
      exact h2
def FNc (a : C) : Prop := ∀ s r, fden (FC ir sg) sg fit a s = some r → ∃ k, fden (fcallN ir sg k) sg (fitN k) a s = some r
theorem fden_up (a : C) {k m : Nat} (h : k ≤ m) (s : FSt) : OLe (fden (fcallN ir sg k) sg (fitN k) a s) (fden (fcallN ir sg m) sg (fitN m) a s) :=
  fden_mono (fcallN_le ir sg h) (fitN_le h) sg _ _
theorem fit_cont (a : C) (ha : FNc ir sg a) : ∀ (n : Nat) (s : FSt) r, fitN n (fden (FC ir sg) sg fit a) s = some r → ∃ k, fitN k (fden (fcallN ir sg k) sg (fitN k) a) s = some r
  | 0, _, _, h => nomatch h
  | n + 1, s, r, h => by
    unfold fitN at h
    obtain ⟨q, hq, h2⟩ := Option.bind_eq_some_iff.1 h
    obtain ⟨k1, h1⟩ := ha _ _ hq
    split at h2
    · rename_i hn
      obtain ⟨k2, h2⟩ := fit_cont a ha n _ _ h2
      refine ⟨max k1 k2 + 1, ?_⟩
      rw [fitN.eq_2]
      rw [fden_up ir sg a (by omega : k1 ≤ max k1 k2 + 1) _ _ h1, Option.bind_some]
      simp only [hn]
      exact (fitN_le (by omega : k2 ≤ max k1 k2)) _ _ (fun s => fden_up ir sg a (by omega) _) _ _ h2
    · rename_i hn
      cases h2
      refine ⟨k1 + 1, ?_⟩
      rw [fitN.eq_2]
      rw [fden_up ir sg a (by omega : k1 ≤ k1 + 1) _ _ h1, Option.bind_some]
      split
      · rename_i h3; exact absurd h3 hn
      · rfl
theorem fden_cont : ∀ (a : C), FNc ir sg a
  | .skip, _, _, h => ⟨0, h⟩
  | .reg false ops, s, r, h => by
    unfold fden at h
    obtain ⟨q, hq, h2⟩ := Option.map_eq_some_iff.1 h
    obtain ⟨k, hk⟩ := fregT_cont ir sg ops _ hq
    exact ⟨k, by unfold fden; rw [hk]; exact congrArg some h2⟩
  | .reg true ops, s, r, h => by
    unfold fden at h
    obtain ⟨q, hq, h2⟩ := Option.map_eq_some_iff.1 h
    obtain ⟨k, hk⟩ := fregD_cont ir sg ops _ _ _ hq
    exact ⟨k, by unfold fden; rw [hk]; exact congrArg some h2⟩
  | .seq a b, s, r, h => by
    unfold fden at h
    obtain ⟨q, hq, h2⟩ := Option.bind_eq_some_iff.1 h
    obtain ⟨k1, h1⟩ := fden_cont a _ _ hq
    split at h2
    · rename_i hn
      obtain ⟨k2, h2⟩ := fden_cont b _ _ h2
      refine ⟨max k1 k2, ?_⟩
      unfold fden
      rw [fden_up ir sg a (Nat.le_max_left k1 k2) _ _ h1, Option.bind_some]
      simp only [hn]
      exact fden_up ir sg b (Nat.le_max_right k1 k2) _ _ h2
    · rename_i hn
      refine ⟨k1, ?_⟩
      unfold fden
      rw [h1, Option.bind_some]
      split
      · rename_i h3; exact absurd h3 hn
      · exact h2
  | .cond x a b, s, r, h => by
    unfold fden at h
    split at h
    · rename_i t hx
      split at h
      · rename_i ht
        obtain ⟨k, hk⟩ := fden_cont a _ _ h
        exact ⟨k, by unfold fden; simp only [hx]; rw [if_pos ht]; exact hk⟩
      · rename_i ht
        obtain ⟨k, hk⟩ := fden_cont b _ _ h
        exact ⟨k, by unfold fden; simp only [hx]; rw [if_neg ht]; exact hk⟩
    · cases h
  | .blk id a, s, r, h => by
    unfold fden at h
    obtain ⟨q, hq, h2⟩ := Option.map_eq_some_iff.1 h
    obtain ⟨k, hk⟩ := fden_cont a _ _ hq
    exact ⟨k, by unfold fden; rw [hk]; exact congrArg some h2⟩
  | .loop a, s, r, h => by
    unfold fden at h
    obtain ⟨n, hn⟩ := fit_some h
    obtain ⟨k, hk⟩ := fit_cont ir sg a (fden_cont a) n s r hn
    exact ⟨k, by unfold fden; exact hk⟩
  | .exit _, _, _, h => ⟨0, h⟩
  | .ret, _, _, h => ⟨0, h⟩
  | .bad, _, _, h => ⟨0, h⟩
end
/-- how a call is opened -/
theorem FC_open {ir : Nat → Option F} {sg : Sg} {f : Nat} {fn : F} (hf : ir f = some fn) {args : List FV} {r} (h : fbody (FC ir sg) sg fit fn args = some r) : FC ir sg f args = some r := by
  unfold fbody at h
  split at h
  · rename_i hl
    obtain ⟨a, ha, h1⟩ := Option.bind_eq_some_iff.1 h
    obtain ⟨q, hq, h2⟩ := Option.bind_eq_some_iff.1 h1
    obtain ⟨k, hk⟩ := fden_cont ir sg fn.body _ _ hq
    refine some_FC (k := k + 1) ?_
    unfold fcallN
    rw [hf, Option.bind_some]
    unfold fbody
    rw [if_pos hl, ha, Option.bind_some, hk, Option.bind_some]
    exact h2
  · cases h
/-- **What the functional machine answers, the abstract machine answers.** -/
theorem FC_sound {ir : Nat → Option F} {sg : Sg} (hir : ∀ f F, ir f = some F → F.body.okR = true) : FGood (Call ir) (FC ir sg) := fun f fargs fres fouts h I H args ls p hA hN hI hnd hIn => by
  obtain ⟨k, hk⟩ := FC_some h
  obtain ⟨v, u, I', ws, h1, h2⟩ := fgood hir k f fargs fres fouts hk I H args ls p hA hN hI hnd hIn
  exact ⟨v, u, I', ws, some_Call h1, h2⟩
end Go.Proofs.YtalnnbokmpppjaaAb
