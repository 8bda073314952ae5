/- A call of the functional machine is a call of the abstract machine. -/
import Derived.Test.YtalnnbokmpppjaaFmCall
namespace Go.Proofs.YtalnnbokmpppjaaAb
open Go
set_option linter.unusedVariables false
set_option linter.unusedSimpArgs false
theorem OwnB.ext {I I' : Im} {H : Heap} {lc : Lc} {ik : Option IntKind} {esz : Nat} {c : List FV} (h : OwnB I H lc ik esz c) (hi : ExI I I') : OwnB I' H lc ik esz c := by
  obtain ⟨b, h1, h2⟩ := h; exact ⟨b, h1, h2.ext (ExR.refl _) hi⟩
theorem R1.ext {ls : List Lc} {I I' : Im} {H : Heap} {v : FV} {v' : V} {ws : List Lc} (h : R1 ls I H v v' ws) (hi : ExI I I') : R1 ls I' H v v' ws := by
  cases h with
  | tree h => exact .tree (h.ext (ExR.refl _) hi)
  | own hb hv => exact .own (hb.ext hi) (hv.ext (ExR.refl _) hi)
  | optr hb => exact .optr (hb.ext hi)
  | aref hl hv => exact .aref hl (hv.ext (ExR.refl _) hi)
  | aptr hl => exact .aptr hl
theorem R2.ext {ls : List Lc} {I I' : Im} {H : Heap} {v : FV} {v' : V} {ws : List Lc} (h : R2 ls I H v v' ws) (hi : ExI I I') : R2 ls I' H v v' ws := by
  cases h with
  | one h => exact .one (h.ext hi)
  | agg h => exact .agg (h.imp fun _ _ _ k => k.ext hi)
def AtL (ρ : Rh) (ts : List (Nat × FB)) (ls : List Lc) : Prop := PW (fun x lc => ρ x.1 x.2.g = some lc) ts ls
section
variable {W : Nm → Prop} {ρ : Rh} {I : Im} {L L1 : FHeap} {H : Heap} {n : Nat}
theorem fzO_ok (h : Rl W ρ I L H n) (h1 : Rl W ρ I L1 H n) {v : FV} {v' : V} {ts : List (Nat × FB)} (hs : S1 ρ I v v' ts) (hts : ∀ x ∈ ts, L x.1 = some x.2) {r} (hz : fzO L1 v = some r) :
    ∃ ls, AtL ρ ts ls ∧ R1 [] (addI ρ L1 H I r.2) H r.1 v' ls := by
  cases hs with
  | plain hv =>
    refine ⟨[], PW.nil, .tree ?_⟩
    have e : fzO L1 v = fz L1 fuel v := by cases hv <;> rfl
    rw [e] at hz
    exact (fz_ok h1 fuel).1 v r.1 r.2 hz v' hv
  | @own d g m esz ik c _ hv =>
    cases hz
    have hL := hts _ (List.mem_singleton.2 rfl)
    obtain ⟨lc, b, k1, k2, k3⟩ := h.blk d _ hL
    rw [addI_nil]
    exact ⟨[lc], PW.cons k1 PW.nil, .own ⟨b, k2, k3⟩ (hv.to1 k1)⟩
  | @optr d g esz tr ik c _ hv =>
    obtain ⟨q, hq, rfl⟩ := Option.map_eq_some_iff.1 hz
    have hL := hts _ (List.mem_singleton.2 rfl)
    obtain ⟨lc, b, k1, k2, k3⟩ := h.blk d _ hL
    obtain ⟨lc', h2, rfl⟩ := ptr_f hv
    rw [show FB.g (.row g false tr ik esz c) = g from rfl, h2] at k1; cases k1
    obtain ⟨q1, q2, q3, q4, q5, q6, q7, q8⟩ := k3
    have hp := CR.if_ext q6
    have hp2 := hp.pw
    have hc : VFL rh0 (addI ρ L1 H I q.2) q.1 _ := trees_ok h1 hq (m := (b.cells.drop lc.base).take c.length) (by
      cases hl : c.all FV.leaf
      · exact hp2
      · exact hp2.leaf hl)
    have hlen : q.1.length = c.length := hc.1.trans hp2.1.symm
    refine ⟨[lc], PW.cons h2 PW.nil, .optr ⟨b, k2, by rw [hlen]; exact q1, q2, q3, q4, q5, ?_, (fun e => by cases e), q8⟩⟩
    exact CR.of (by rw [hlen]; exact hp.1) (by rw [hlen]; exact hc)
theorem fzOL_ok (h : Rl W ρ I L H n) (h1 : Rl W ρ I L1 H n) {l : List FV} {l' : List V} {ts : List (Nat × FB)} (hs : LS (S1 ρ I) l l' ts) : (∀ x ∈ ts, L x.1 = some x.2) → ∀ {r}, fzOL L1 l = some r →
    ∃ ls, AtL ρ ts ls ∧ LR (R1 [] (addI ρ L1 H I r.2) H) r.1 l' ls := by
  induction hs with
  | nil => intro _ r hr; cases hr; exact ⟨[], PW.nil, .nil⟩
  | cons a _ ih =>
    intro hts r hr
    simp only [fzOL] at hr
    obtain ⟨q, hq, hr⟩ := Option.bind_eq_some_iff.1 hr
    obtain ⟨s, hs, rfl⟩ := Option.map_eq_some_iff.1 hr
    obtain ⟨ls, a1, a2⟩ := fzO_ok h h1 a (fun x hx => hts x (List.mem_append_left _ hx)) hq
    obtain ⟨ls', b1, b2⟩ := ih (fun x hx => hts x (List.mem_append_right _ hx)) hs
    exact ⟨ls ++ ls', a1.append b1, .cons (a2.ext (addI_sub fun d hd => List.mem_append_left _ hd)) (b2.imp fun _ _ _ k => k.ext (addI_sub fun d hd => List.mem_append_right _ hd))⟩
theorem fzA_ok (h : Rl W ρ I L H n) (h1 : Rl W ρ I L1 H n) {v : FV} {v' : V} {ts : List (Nat × FB)} (hs : S2 ρ I v v' ts) (hts : ∀ x ∈ ts, L x.1 = some x.2) {r} (hz : fzA L1 v = some r) :
    ∃ ls, AtL ρ ts ls ∧ R2 [] (addI ρ L1 H I r.2) H r.1 v' ls := by
  unfold fzA at hz
  split at hz
  · rename_i l0
    obtain ⟨q, hq, rfl⟩ := Option.map_eq_some_iff.1 hz
    have hs' : ∃ l', v' = .agg l' ∧ LS (S1 ρ I) l0 l' ts := by
      cases hs with
      | one h =>
        cases h with
        | plain h =>
          obtain ⟨m, rfl, hm⟩ := agg_f h
          exact ⟨m, rfl, LS.of (hm.imp fun _ _ k => .plain k)⟩
      | agg h => exact ⟨_, rfl, h⟩
    obtain ⟨l', rfl, hl⟩ := hs'
    obtain ⟨ls, a1, a2⟩ := fzOL_ok h h1 hl hts hq
    exact ⟨ls, a1, .agg a2⟩
  · rename_i hne
    cases hs with
    | one hs =>
      obtain ⟨ls, a1, a2⟩ := fzO_ok h h1 hs hts hz
      exact ⟨ls, a1, .one a2⟩
    | agg => exact absurd rfl (hne _)
theorem fzAL_ok (h : Rl W ρ I L H n) (h1 : Rl W ρ I L1 H n) {l : List FV} {l' : List V} {ts : List (Nat × FB)} (hs : LS (S2 ρ I) l l' ts) : (∀ x ∈ ts, L x.1 = some x.2) → ∀ {r}, fzAL L1 l = some r →
    ∃ ls, AtL ρ ts ls ∧ LR (R2 [] (addI ρ L1 H I r.2) H) r.1 l' ls := by
  induction hs with
  | nil => intro _ r hr; cases hr; exact ⟨[], PW.nil, .nil⟩
  | cons a _ ih =>
    intro hts r hr
    simp only [fzAL] at hr
    obtain ⟨q, hq, hr⟩ := Option.bind_eq_some_iff.1 hr
    obtain ⟨s, hs, rfl⟩ := Option.map_eq_some_iff.1 hr
    obtain ⟨ls, a1, a2⟩ := fzA_ok h h1 a (fun x hx => hts x (List.mem_append_left _ hx)) hq
    obtain ⟨ls', b1, b2⟩ := ih (fun x hx => hts x (List.mem_append_right _ hx)) hs
    exact ⟨ls ++ ls', a1.append b1, .cons (a2.ext (addI_sub fun d hd => List.mem_append_left _ hd)) (b2.imp fun _ _ _ k => k.ext (addI_sub fun d hd => List.mem_append_right _ hd))⟩
end
/-- what a call has done -/
structure Back (ls : List Lc) (I : Im) (H : Heap) (p : Nm) (u : Upd) (fres : FV) (fouts : List (Option (List FV))) (v : V) (I' : Im) (ws : List Lc) : Prop where
  touch : ∀ x ∈ u, under p x.1 = true ∨ ∃ lc ∈ ls, lc.n = x.1
  ext : ExI I I'
  imm : ∀ m b, I' m = some b → app H u m = some b
  new : ∀ m b, I' m = some b → I m = none → under p m = true ∨ ∃ (k : Nat) (lc : Lc), ls[k]? = some lc ∧ fouts[k]? = some none ∧ lc.n = m
  res : R3 ls I' (app H u) fres v ws
  len : fouts.length = ls.length
  out : ∀ (k : Nat) (lc : Lc) c, ls[k]? = some lc → fouts[k]? = some (some c) → I' lc.n = none ∧ ∃ b, app H u lc.n = some b ∧ BRel rh0 I' lc (.row 0 false true lc.ik lc.esz c) b
  nd : (ws.map (·.n)).Nodup
  own : ∀ lc ∈ ws, I' lc.n = none ∧ (under p lc.n = true ∨ ∃ (k : Nat) (l : Lc), ls[k]? = some l ∧ fouts[k]? = some none ∧ l.n = lc.n)
def FGood (call : CallF) (fcall : FCallF) : Prop := ∀ f fargs fres fouts, fcall f fargs = some (fres, fouts) → ∀ (I : Im) (H : Heap) (args : List V) (ls : List Lc) (p : Nm),
  LR (R2 [] I H) fargs args ls → (∀ m, under p m = true → H m = none) → (∀ m b, I m = some b → H m = some b) → (ls.map (·.n)).Nodup → (∀ lc ∈ ls, I lc.n = none) →
  ∃ v u I' ws, call f args p H = some (v, u) ∧ Back ls I H p u fres fouts v I' ws
/-! ### Nothing of what was read in it -/
section
variable {I I' : Im} {H : Heap}
theorem clean_VF {v : FV} {v' : V} (h : VF rh0 I' v v') (hc : clean1 v = true) : VF rh0 I v v' := by
  cases h <;> simp only [clean1, Bool.false_eq_true] at hc
  case int => exact .int _ _ _ _
  case bool => exact .bool _ _ _
  case str => exact .str _ _ _
  case nilp => exact .nilp _ _
  case nilf => exact .nilf _ _
  case nili => exact .nili _ _
  case emp => exact .emp _ _
  case empS => exact .empS _ _ _ _
  case clo f fs cs fs' cs' hl' kl h k =>
    cases fs <;> cases cs <;> simp only [clean1, Bool.false_eq_true] at hc
    rw [PW.nil' (R := VF rh0 I') ⟨hl', h⟩, PW.nil' (R := VF rh0 I') ⟨kl, k⟩]
    exact .clo' PW.nil PW.nil
theorem clean_cells {lc : Lc} {ik : Option IntKind} {esz g : Nat} {c : List FV} {b : Blk} (h : BRel rh0 I' lc (.row g false true ik esz c) b) (hc : ik.isSome = true ∨ c.all clean1 = true) : BRel rh0 I lc (.row g false true ik esz c) b := by
  obtain ⟨q1, q2, q3, q4, q5, q6, q7, q8⟩ := h
  refine ⟨q1, q2, q3, q4, q5, ⟨q6.1, fun i v v' hv hv' => ?_⟩, (fun e => by cases e), q8⟩
  have hV := q6.2 i v v' hv hv'
  rcases hc with hc | hc
  · obtain ⟨k, rfl⟩ := Option.isSome_iff_exists.1 hc
    obtain ⟨l, rfl⟩ := q5
    simp only [Blk.cells, List.getElem?_map, Option.map_eq_some_iff] at hv'
    obtain ⟨x, _, rfl⟩ := hv'
    cases hV with
    | bad => exact .bad _ _ _
    | int => exact .int _ _ _ _
  · exact clean_VF hV (List.all_eq_true.1 hc v (List.mem_of_getElem? hv))
theorem VF.refI {ρ : Rh} {d g o n : Nat} {v' : V} (h : VF ρ I' (.ref d g o n) v') : VF ρ I (.ref d g o n) v' := by
  obtain ⟨lc', o', cap, opn, h1, rfl, h2, h3, h4, h5, h6, h7⟩ := ref_f h
  exact .ref h1 h2 h3 h4 h5 h6 h7
theorem clean_R1 {ls : List Lc} {v : FV} {v' : V} {ws : List Lc} (h : R1 ls I' H v v' ws) (hc : clean1 v = true) : R1 ls I H v v' ws := by
  cases h with
  | tree h => exact .tree (clean_VF h hc)
  | @own ik esz n c v' lc hb hv =>
    obtain ⟨b, h1, h2⟩ := hb
    cases ik with
    | none => cases hc
    | some k => exact .own ⟨b, h1, clean_cells h2 (.inl rfl)⟩ hv.refI
  | optr => cases hc
  | aref hl hv => exact .aref hl hv.refI
  | aptr hl => exact .aptr hl
theorem clean_LR1 {ls : List Lc} {l : List FV} {l' : List V} {ws : List Lc} (h : LR (R1 ls I' H) l l' ws) : l.all clean1 = true → LR (R1 ls I H) l l' ws := by
  induction h with
  | nil => intro _; exact .nil
  | cons a _ ih =>
    intro hc
    simp only [List.all_cons, Bool.and_eq_true] at hc
    exact .cons (clean_R1 a hc.1) (ih hc.2)
theorem clean_R2 {ls : List Lc} {v : FV} {v' : V} {ws : List Lc} (h : R2 ls I' H v v' ws) (hc : clean2 v = true) : R2 ls I H v v' ws := by
  unfold clean2 at hc
  split at hc
  · obtain ⟨l', rfl, hl⟩ := h.agg_inv
    exact .agg (clean_LR1 hl hc)
  · have := h.one_inv (fun l e => by cases e)
    cases this with
    | tree hv => cases hv
    | optr hb =>
      obtain ⟨b, h1, h2⟩ := hb
      exact .one (.optr ⟨b, h1, clean_cells h2 (.inr hc)⟩)
  · rename_i hne _
    exact .one (clean_R1 (h.one_inv fun l e => hne l e) hc)
theorem clean_LR2 {ls : List Lc} {l : List FV} {l' : List V} {ws : List Lc} (h : LR (R2 ls I' H) l l' ws) : l.all clean2 = true → LR (R2 ls I H) l l' ws := by
  induction h with
  | nil => intro _; exact .nil
  | cons a _ ih =>
    intro hc
    simp only [List.all_cons, Bool.and_eq_true] at hc
    exact .cons (clean_R2 a hc.1) (ih hc.2)
theorem clean_R3 {ls : List Lc} {v : FV} {v' : V} {ws : List Lc} (h : R3 ls I' H v v' ws) (hc : clean v = true) : R3 ls I H v v' ws := by
  unfold clean at hc
  split at hc
  · obtain ⟨l', rfl, hl⟩ := h.tup_inv
    exact .tup (clean_LR2 hl hc)
  · rename_i hne
    exact .two (clean_R2 (h.two_inv fun l e => hne l e) hc)
theorem cleanO_get : ∀ {os : List (Option (List FV))} {k : Nat} {c : List FV}, cleanO os = true → os[k]? = some (some c) → c.all clean1 = true
  | [], k, c, _, h => by simp at h
  | o :: os, 0, c, h, hk => by simp at hk; subst hk; simp only [cleanO, Bool.and_eq_true] at h; exact h.1
  | o :: os, k + 1, c, h, hk => by
    have : cleanO os = true := by
      cases o with
      | none => exact h
      | some x => simp only [cleanO, Bool.and_eq_true] at h; exact h.2
    exact cleanO_get this (by simpa using hk)
end
/-! ### What comes back -/
theorem back_ok : ∀ {ts : List (Nat × FB)} {os : List (Option (List FV))} {b : FUpd}, back ts os = some b → b.map (·.1) = ts.map (·.1) ∧ ts.length = os.length ∧ ∀ d fb, (d, some fb) ∈ b → ∃ (k g : Nat) (fr tr : Bool) (ik : Option IntKind) (esz : Nat) (c c' : List FV),
    ts[k]? = some (d, .row g fr tr ik esz c) ∧ os[k]? = some (some c') ∧ fb = .row g fr true ik esz c' ∧ c'.length = c.length
  | [], [], b, h => by cases h; exact ⟨rfl, rfl, fun d fb h => by cases h⟩
  | [], o :: os, b, h => by simp [back] at h
  | (d, fb) :: ts, [], b, h => by cases fb <;> simp [back] at h
  | (d, fb) :: ts, none :: os, b, h => by
    have h' : (back ts os).map ((d, none) :: ·) = some b := by cases fb <;> exact h
    obtain ⟨b', hb, rfl⟩ := Option.map_eq_some_iff.1 h'
    obtain ⟨h1, h2, h3⟩ := back_ok hb
    refine ⟨by simp [h1], by simp [h2], fun e fb' hm => ?_⟩
    rcases List.mem_cons.1 hm with hm | hm
    · cases hm
    · obtain ⟨k, g, fr, tr, ik, esz, c, c', a1, a2, a3⟩ := h3 e fb' hm
      exact ⟨k + 1, g, fr, tr, ik, esz, c, c', by simpa using a1, by simpa using a2, a3⟩
  | (d, .iter g s p) :: ts, some c' :: os, b, h => by simp [back] at h
  | (d, .row g fr tr ik esz c) :: ts, some c' :: os, b, h => by
    simp only [back] at h
    split at h
    · rename_i hl
      obtain ⟨b', hb, rfl⟩ := Option.map_eq_some_iff.1 h
      obtain ⟨h1, h2, h3⟩ := back_ok hb
      refine ⟨by simp [h1], by simp [h2], fun e fb' hm => ?_⟩
      rcases List.mem_cons.1 hm with hm | hm
      · cases hm
        exact ⟨0, g, fr, tr, ik, esz, c, c', rfl, rfl, rfl, hl⟩
      · obtain ⟨k, g, fr, tr, ik, esz, c, c', a1, a2, a3⟩ := h3 e fb' hm
        exact ⟨k + 1, g, fr, tr, ik, esz, c, c', by simpa using a1, by simpa using a2, a3⟩
    · cases h
theorem flook_mem {E : FUpd} {d : Nat} (h : d ∈ E.map (·.1)) : (flook E d).isSome = true := by
  induction E with
  | nil => cases h
  | cons e E ih =>
    obtain ⟨m, b⟩ := e
    simp only [flook]
    split
    · rfl
    · rename_i hne
      exact ih ((List.mem_cons.1 h).resolve_left hne)
theorem posOf_ok : ∀ {l : List Nat} {d k : Nat}, posOf l d = some k → l[k]? = some d
  | [], d, k, h => by cases h
  | a :: l, d, k, h => by
    simp only [posOf] at h
    split at h
    · rename_i e; cases h; simp [e]
    · obtain ⟨j, hj, rfl⟩ := Option.map_eq_some_iff.1 h
      simpa using posOf_ok hj
theorem posOf_nodup : ∀ {l : List Nat} {d k : Nat}, l.Nodup → l[k]? = some d → posOf l d = some k
  | [], d, k, _, h => by simp at h
  | a :: l, d, 0, hn, h => by simp at h; subst h; simp [posOf]
  | a :: l, d, k + 1, hn, h => by
    have hl : l[k]? = some d := by simpa using h
    have := posOf_nodup (List.nodup_cons.1 hn).2 hl
    simp only [posOf]
    rw [if_neg (fun e => (List.nodup_cons.1 hn).1 (by rw [e]; exact List.mem_of_getElem? hl)), this]; rfl
theorem nodup_get {α : Type} {l : List α} (h : l.Nodup) {i j : Nat} {a : α} (hi : l[i]? = some a) (hj : l[j]? = some a) : i = j := by
  obtain ⟨h1, e1⟩ := List.getElem?_eq_some_iff.1 hi
  obtain ⟨h2, e2⟩ := List.getElem?_eq_some_iff.1 hj
  have hp := List.pairwise_iff_getElem.1 h
  by_cases hlt : i < j
  · exact absurd (e1.trans e2.symm) (hp i j h1 h2 hlt)
  · by_cases hgt : j < i
    · exact absurd (e2.trans e1.symm) (hp j i h2 h1 hgt)
    · omega
theorem nodup_of {α : Type} {l : List α} (h : ∀ (i j : Nat) a, l[i]? = some a → l[j]? = some a → i = j) : l.Nodup := by
  refine List.pairwise_iff_getElem.2 fun i j hi hj hij e => ?_
  have := h i j l[i] (List.getElem?_eq_getElem hi) (by rw [e]; exact List.getElem?_eq_getElem hj)
  omega
theorem Nms.nodup {d k : Nat} {u : FUpd} (h : Nms d k u) : (u.map (·.1)).Nodup := by
  refine nodup_of fun i j a hi hj => ?_
  rw [List.getElem?_map] at hi hj
  obtain ⟨x, hx, rfl⟩ := Option.map_eq_some_iff.1 hi
  obtain ⟨y, hy, e⟩ := Option.map_eq_some_iff.1 hj
  have h1 := h i x hx
  have h2 := h j y hy
  unfold step at h1 h2
  omega
theorem fapp_congr {M M' : FHeap} {E : FUpd} (h : ∀ d, flook E d = none → M d = M' d) : fapp M E = fapp M' E := by
  funext d
  show (match flook E d with | some b => b | none => M d) = (match flook E d with | some b => b | none => M' d)
  cases he : flook E d with
  | none => exact h d he
  | some b => rfl
end Go.Proofs.YtalnnbokmpppjaaAb
