/- A call of the functional machine is a call of the abstract machine: the state after it. -/
import Derived.Test.YtalnnbokmpppjaaFmCal2
namespace Go.Proofs.YtalnnbokmpppjaaAb
open Go
set_option linter.unusedVariables false
set_option linter.unusedSimpArgs false
section
variable {W : Nm → Prop} {ρ : Rh} {I : Im} {L : FHeap} {H : Heap} {n : Nat} {q : Nm}
theorem look_none_of {u : Upd} {m : Nm} (h : ∀ x ∈ u, x.1 ≠ m) : look u m = none := by
  cases hl : look u m with
  | none => rfl
  | some b => exact absurd rfl (h _ (look_mem hl))
theorem fCall_ok {call : CallF} {fcall : FCallF} (hg : FGood call fcall) (h : Rl W ρ I L H n) (hN : ∀ m, under q m = true → H m = none) (hW : ∀ m, under q m = true → W m) {sg : Sg} {d f : Nat} {fargs : List FV} {args : List V} (hargs : VFL ρ I fargs args) {v : FV} {fu : FUpd}
    (hv : fCall fcall sg L d n f fargs = some (v, fu)) : ∃ v' u, call f args q H = some (v', u) ∧ Dn W q ρ I L H n v fu v' u := by
  unfold fCall at hv
  obtain ⟨⟨a1, ts, L1⟩, ht, hv1⟩ := Option.bind_eq_some_iff.1 hv
  obtain ⟨⟨a2, vs⟩, hz, hv2⟩ := Option.bind_eq_some_iff.1 hv1
  obtain ⟨⟨fres, os⟩, hcall, hv3⟩ := Option.bind_eq_some_iff.1 hv2
  obtain ⟨b, hb, hv4⟩ := Option.bind_eq_some_iff.1 hv3
  obtain ⟨⟨rv, hu⟩, hth, he⟩ := Option.map_eq_some_iff.1 hv4
  clear hv hv1 hv2 hv3 hv4
  simp only at ht hz hcall hb hth he
  obtain ⟨hS, T⟩ := tkAll_ok hargs ht
  simp only at hS T
  have h1 : Rl W ρ I L1 H n := h.le T.le (Nat.le_refl _)
  obtain ⟨ls, hls, hA⟩ := fzAL_ok h h1 hS (fun x hx => (T.live x hx).1) hz
  simp only at hA
  -- where the blocks handed over lie
  have tl : ∀ (k : Nat) (lc : Lc), ls[k]? = some lc → ∃ x, ts[k]? = some x ∧ ρ x.1 x.2.g = some lc ∧ L x.1 = some x.2 ∧ x.2.fz = false ∧ L1 x.1 = none := fun k lc hk => by
    have hk' : k < ts.length := by rw [hls.1]; exact (List.getElem?_eq_some_iff.1 hk).1
    have hx : ts[k]? = some ts[k] := List.getElem?_eq_getElem hk'
    obtain ⟨e1, e2, e3⟩ := T.live _ (List.mem_of_getElem? hx)
    exact ⟨_, hx, hls.2 k _ lc hx hk, e1, e2, e3⟩
  have lsnd : (ls.map (·.n)).Nodup := nodup_of fun i j a hi hj => by
    rw [List.getElem?_map] at hi hj
    obtain ⟨x, hx, rfl⟩ := Option.map_eq_some_iff.1 hi
    obtain ⟨y, hy, e⟩ := Option.map_eq_some_iff.1 hj
    obtain ⟨p, p1, p2, p3, _⟩ := tl i x hx
    obtain ⟨r, r1, r2, r3, _⟩ := tl j y hy
    by_cases epr : p.1 = r.1
    · refine nodup_get T.nodup (i := i) (j := j) (a := p.1) (by rw [List.getElem?_map, p1]; rfl) (by rw [List.getElem?_map, r1, epr]; rfl)
    · exact absurd e.symm (h.inj _ _ _ _ _ _ p3 r3 epr p2 r2)
  have lsn : ∀ lc ∈ ls, ∃ k, ls[k]? = some lc := fun lc hlc => List.getElem?_of_mem hlc
  have lsI : ∀ lc ∈ ls, I lc.n = none := fun lc hlc => by
    obtain ⟨k, hk⟩ := lsn lc hlc
    obtain ⟨x, x1, x2, x3, x4, x5⟩ := tl k lc hk
    exact (h.wr _ _ _ x3 x4 x2).1
  have lsW : ∀ lc ∈ ls, W lc.n := fun lc hlc => by
    obtain ⟨k, hk⟩ := lsn lc hlc
    obtain ⟨x, x1, x2, x3, x4, x5⟩ := tl k lc hk
    exact (h.wr _ _ _ x3 x4 x2).2
  have lsH : ∀ lc ∈ ls, ∃ c, H lc.n = some c := fun lc hlc => by
    obtain ⟨k, hk⟩ := lsn lc hlc
    obtain ⟨x, x1, x2, x3, x4, x5⟩ := tl k lc hk
    obtain ⟨lc', c, k1, k2, _⟩ := h.blk _ _ x3
    rw [x2] at k1; cases k1
    exact ⟨c, k2⟩
  have nq : ∀ m c, H m = some c → under q m = false := fun m c hm => by
    cases hc : under q m
    · rfl
    · rw [hN m hc] at hm; cases hm
  have lsq : ∀ lc ∈ ls, under q lc.n = false := fun lc hlc => by obtain ⟨c, hc⟩ := lsH lc hlc; exact nq _ _ hc
  -- a block that was not handed over lies elsewhere
  have ls1 : ∀ d' fb lc', L1 d' = some fb → ρ d' fb.g = some lc' → ∀ lc ∈ ls, lc'.n ≠ lc.n := fun d' fb lc' e1 e2 lc hlc => by
    obtain ⟨k, hk⟩ := lsn lc hlc
    obtain ⟨x, x1, x2, x3, x4, x5⟩ := tl k lc hk
    have hne : d' ≠ x.1 := fun e => by rw [e, x5] at e1; cases e1
    exact h.inj _ _ _ _ _ _ (T.le _ _ e1) x3 hne e2 x2
  have lsI1 : ∀ lc ∈ ls, addI ρ L1 H I vs lc.n = none := fun lc hlc => by
    cases hc : addI ρ L1 H I vs lc.n with
    | none => rfl
    | some c =>
      obtain ⟨d', g', fr, tr, ik, esz, c', lc', p1, p2, p3, p4⟩ := addI_new hc (lsI lc hlc)
      exact absurd p4 (ls1 d' _ lc' p2 p3 lc hlc)
  obtain ⟨v', u, I', ws, hc1, B⟩ := hg f a2 fres os hcall (addI ρ L1 H I vs) H args ls q hA hN (addI_imm h1) lsnd lsI1
  refine ⟨v', u, hc1, ?_⟩
  have uH : ∀ m, under q m = false → (∀ lc ∈ ls, m ≠ lc.n) → app H u m = H m := fun m h2 h3 => app_none (look_none_of fun x hx e => by
    rcases B.touch x hx with h4 | ⟨lc, h4, h5⟩
    · rw [e, h2] at h4; cases h4
    · exact h3 lc h4 (by rw [← e, h5]))
  have fu_eq : ∃ fr, fu = hu ++ b ++ fr ∧ v = rv ∧ fr = frzOf L1 vs (clean fres && cleanO os) := ⟨_, (Prod.mk.inj he).2.symm, (Prod.mk.inj he).1.symm, rfl⟩
  obtain ⟨fr, rfl, rfl, hfr⟩ := fu_eq
  clear he
  obtain ⟨bk1, bk2, bk3⟩ := back_ok hb
  -- what is read-only from now on, and the blocks that were not handed over
  have mode : ∃ In Ib, ExI I Ib ∧ ExI Ib In ∧ ExI In I' ∧ Rl W ρ Ib (fapp L1 fr) H n ∧ R3 ls In (app H u) fres v' ws ∧ (∀ (k : Nat) (lc : Lc) c, ls[k]? = some lc → os[k]? = some (some c) → ∃ b, app H u lc.n = some b ∧ BRel rh0 In lc (.row 0 false true lc.ik lc.esz c) b) ∧
      (∀ d' fb, fapp L1 fr d' = some fb → ∃ fb0, L1 d' = some fb0 ∧ fb0.g = fb.g) ∧ (∀ d' fb lc, fapp L1 fr d' = some fb → fb.fz = false → ρ d' fb.g = some lc → In lc.n = none) ∧
      (∀ m c, In m = some c → I m = none → under q m = true ∨ ∃ d' fb lc, L d' = some fb ∧ ρ d' fb.g = some lc ∧ lc.n = m ∧ (flook (hu ++ b ++ fr) d').isSome = true) := by
    have hdead : ∀ (k : Nat) (lc : Lc), ls[k]? = some lc → ∃ d' fb lc', L d' = some fb ∧ ρ d' fb.g = some lc' ∧ lc'.n = lc.n ∧ (flook (hu ++ b ++ fr) d').isSome = true := fun k lc hk => by
      obtain ⟨x, x1, x2, x3, x4, x5⟩ := tl k lc hk
      refine ⟨x.1, x.2, lc, x3, x2, rfl, ?_⟩
      refine flook_mem ?_
      rw [List.map_append, List.map_append, bk1]
      exact List.mem_append_left _ (List.mem_append_right _ (List.mem_map.2 ⟨x, List.mem_of_getElem? x1, rfl⟩))
    by_cases hm : vs ≠ [] ∧ (clean fres && cleanO os) = true
    · obtain ⟨hm1, hm2⟩ := hm
      have hfr0 : fr = [] := by
        rw [hfr]
        cases vs with
        | nil => rfl
        | cons a l => simp only [frzOf]; rw [if_pos hm2]
      subst hfr0
      simp only [Bool.and_eq_true] at hm2
      refine ⟨I, I, ExI.refl _, ExI.refl _, (addI_ext _ _ _ _ _).trans B.ext, h1, clean_R3 B.res hm2.1, fun k lc c hk ho => ?_, fun d' fb e => ⟨fb, e, rfl⟩, fun d' fb lc e1 e2 e3 => (h1.wr _ _ _ e1 e2 e3).1, fun m c e1 e2 => by rw [e2] at e1; cases e1⟩
      obtain ⟨_, bb, e1, e2⟩ := B.out k lc c hk ho
      exact ⟨bb, e1, clean_cells e2 (.inr (cleanO_get hm2.2 ho))⟩
    · have hfr1 : fr = freeze L1 vs := by
        rw [hfr]
        cases vs with
        | nil => rfl
        | cons a l => simp only [frzOf]; rw [if_neg (fun e => hm ⟨by simp, e⟩)]
      rw [hfr1]
      refine ⟨I', addI ρ L1 H I vs, addI_ext _ _ _ _ _, B.ext, ExI.refl _, h1.freeze vs, B.res, fun k lc c hk ho => (B.out k lc c hk ho).2, fun d' fb e => ?_, fun d' fb lc e1 e2 e3 => ?_, fun m c e1 e2 => ?_⟩
      · rw [freeze_look] at e
        cases hL : L1 d' with
        | none => rw [hL] at e; cases e
        | some fb0 =>
          rw [hL] at e
          refine ⟨fb0, rfl, ?_⟩
          cases fb0 with
          | iter => cases e; rfl
          | row => simp only at e; split at e <;> cases e <;> rfl
      · have w1 := ((h1.freeze vs).wr _ _ _ e1 e2 e3).1
        cases hI' : I' lc.n with
        | none => rfl
        | some c =>
          obtain ⟨lc2, b2, k1, k2, _⟩ := (h1.freeze vs).blk _ _ e1
          rw [e3] at k1; cases k1
          rcases B.new _ _ hI' w1 with h2 | ⟨k, l, h2, _, h4⟩
          · rw [nq _ _ k2] at h2; cases h2
          · have : ∃ fb0, L1 d' = some fb0 ∧ fb0.g = fb.g := by
              rw [freeze_look] at e1
              cases hL : L1 d' with
              | none => rw [hL] at e1; cases e1
              | some fb0 =>
                rw [hL] at e1
                refine ⟨fb0, rfl, ?_⟩
                cases fb0 with
                | iter => cases e1; rfl
                | row => simp only at e1; split at e1 <;> cases e1 <;> rfl
            obtain ⟨fb0, g1, g2⟩ := this
            exact absurd h4.symm (ls1 d' fb0 lc g1 (by rw [g2]; exact e3) l (List.mem_of_getElem? h2))
      · cases hI1 : addI ρ L1 H I vs m with
        | none =>
          rcases B.new _ _ e1 hI1 with h2 | ⟨k, l, h2, _, h4⟩
          · exact .inl h2
          · obtain ⟨d', fb, lc', g1, g2, g3, g4⟩ := hdead k l h2
            exact .inr ⟨d', fb, lc', g1, g2, g3.trans h4, by rw [← hfr1]; exact g4⟩
        | some c' =>
          obtain ⟨d', g', fr', tr, ik, esz, cc, lc', p1, p2, p3, p4⟩ := addI_new hI1 e2
          refine .inr ⟨d', _, lc', T.le _ _ p2, p3, p4, ?_⟩
          rw [flook_append]
          cases flook (hu ++ b) d' with
          | some x => rfl
          | none => exact flook_freeze p1 p2
  obtain ⟨In, Ib, x1, x2, x3, x4, x5, x6, x7, x8, x9⟩ := mode
  obtain ⟨n1, n2, n3⟩ := th_ok x5 hth
  -- the new places
  let ρ' : Rh := fun d' g' => if g' = n then (posOf (hu.map (·.1)) d').bind (ws[·]?) else ρ d' g'
  have rgen : ∀ d' g' lc, ρ d' g' = some lc → g' ≠ n := fun d' g' lc e e2 => by have := h.gen _ _ _ e; omega
  have hex : ExR ρ ρ' := fun d' g' lc e => by
    show (if g' = n then _ else _) = _
    rw [if_neg (rgen _ _ _ e)]; exact e
  have hold : ∀ d' g' lc, ρ' d' g' = some lc → ρ d' g' = some lc ∨ g' = n := fun d' g' lc e => by
    have e : (if g' = n then (posOf (hu.map (·.1)) d').bind (ws[·]?) else ρ d' g') = some lc := e
    split at e
    · exact .inr ‹_›
    · exact .inl e
  have hnew : ∀ (j : Nat) x lc, hu[j]? = some x → ws[j]? = some lc → ρ' x.1 n = some lc := fun j x lc e1 e2 => by
    show (if n = n then _ else _) = _
    rw [if_pos rfl, posOf_nodup n2.nodup (by rw [List.getElem?_map, e1]; rfl)]
    exact e2
  have hAtU : AtU ρ' n hu ws := ⟨n1.1, fun j x lc e1 e2 => hnew j x lc e1 e2⟩
  have hAtT : AtT ρ' ts ls := fun k x lc e1 e2 => hex _ _ _ (hls.2 k x lc e1 e2)
  have hB : ∀ d' fb, fapp L1 fr d' = some fb → ∀ lc, ρ d' fb.g = some lc → (∃ c, H lc.n = some c) ∧ ∀ l ∈ ls, lc.n ≠ l.n := fun d' fb e lc e2 => by
    obtain ⟨fb0, g1, g2⟩ := x7 d' fb e
    obtain ⟨lc2, b2, k1, k2, _⟩ := x4.blk _ _ e
    rw [e2] at k1; cases k1
    exact ⟨⟨_, k2⟩, ls1 d' fb0 lc g1 (by rw [g2]; exact e2)⟩
  have hbase : Rl W ρ' In (fapp L1 fr) (app H u) (n + 1) := by
    refine x4.heap hex (fun d' g' lc e => ?_) x2 (fun m c e => B.imm m c (x3 m c e)) (fun d' fb lc e1 e2 => ?_) x8
    · rcases hold _ _ _ e with e | e
      · have := h.gen _ _ _ e; omega
      · omega
    · obtain ⟨⟨c, hc⟩, h3⟩ := hB d' fb e1 lc e2
      exact uH _ (nq _ _ hc) h3
  -- entries of the new blocks
  have entH : ∀ d' fb, (d', some fb) ∈ hu → ∃ (j : Nat) (lc : Lc), hu[j]? = some (d', some fb) ∧ ws[j]? = some lc ∧ ρ' d' fb.g = some lc ∧ fb.fz = false ∧ (∃ c, app H u lc.n = some c ∧ BRel ρ' In lc fb c) := fun d' fb hm => by
    obtain ⟨j, hj⟩ := List.getElem?_of_mem hm
    obtain ⟨lc, hl, ik, esz, c, e1, c', e2, e3⟩ := n1.get hj
    simp only [Option.some.injEq] at e1
    subst e1
    exact ⟨j, lc, hj, hl, hnew j _ lc hj hl, rfl, c', e2, e3.ext (ExR.zero _) (ExI.refl _)⟩
  have entB : ∀ d' fb, (d', some fb) ∈ b → ∃ (k : Nat) (lc : Lc) (c : List FV), ls[k]? = some lc ∧ os[k]? = some (some c) ∧ ρ' d' fb.g = some lc ∧ fb.fz = false ∧ fb.g ≠ n ∧ (∃ c, app H u lc.n = some c ∧ BRel ρ' In lc fb c) := fun d' fb hm => by
    obtain ⟨k, g, fr', tr, ik, esz, c, c', e1, e2, e3, e4⟩ := bk3 d' fb hm
    have hk : k < ls.length := by rw [← hls.1]; exact (List.getElem?_eq_some_iff.1 e1).1
    have hlk : ls[k]? = some ls[k] := List.getElem?_eq_getElem hk
    have hρ := hls.2 k _ _ e1 hlk
    obtain ⟨t1, t2, t3⟩ := T.live _ (List.mem_of_getElem? e1)
    have hfr' : fr' = false := t2
    subst hfr'
    obtain ⟨lc2, b2, k1, k2, q1, q2, q3, q4, q5, q6, q7, q8⟩ := h.blk _ _ t1
    rw [hρ] at k1; cases k1
    obtain ⟨bb, f1, f2⟩ := x6 k _ c' hlk e2
    subst e3
    refine ⟨k, _, c', hlk, e2, hex _ _ _ hρ, rfl, rgen _ _ _ hρ, bb, f1, ?_⟩
    rw [q8, q2] at f2
    have f3 := f2.ext (ExR.zero ρ') (ExI.refl _)
    exact ⟨f3.1, f3.2.1, f3.2.2.1, f3.2.2.2.1, f3.2.2.2.2.1, by simpa using f2.2.2.2.2.2.1, (fun e => by cases e), q8⟩
  have hIn : ∀ m, I' m = none → In m = none := fun m e => by
    cases hc : In m with
    | none => rfl
    | some c => rw [x3 m c hc] at e; cases e
  -- a new block of the results does not lie where one lies that came back, or that was not handed over
  have wsls : ∀ lc ∈ ws, ∀ (k : Nat) (l : Lc) c, ls[k]? = some l → os[k]? = some (some c) → lc.n ≠ l.n := fun lc hlc k l c e1 e2 e => by
    rcases (B.own lc hlc).2 with h2 | ⟨k', l', h2, h3, h4⟩
    · rw [e, lsq l (List.mem_of_getElem? e1)] at h2; cases h2
    · have hkk : k' = k := nodup_get lsnd (a := l.n) (by rw [List.getElem?_map, h2]; simp [h4, e]) (by rw [List.getElem?_map, e1]; rfl)
      rw [hkk, e2] at h3; cases h3
  have wsB : ∀ lc ∈ ws, ∀ d' fb lc', fapp L1 fr d' = some fb → ρ d' fb.g = some lc' → lc.n ≠ lc'.n := fun lc hlc d' fb lc' e1 e2 e => by
    obtain ⟨⟨c, hc⟩, h3⟩ := hB d' fb e1 lc' e2
    rcases (B.own lc hlc).2 with h2 | ⟨k', l', h2, _, h4⟩
    · rw [e, nq _ _ hc] at h2; cases h2
    · exact h3 l' (List.mem_of_getElem? h2) (by rw [← e, h4])
  have oldL1 : ∀ d' fb lc, fapp L1 fr d' = some fb → ρ' d' fb.g = some lc → ρ d' fb.g = some lc := fun d' fb lc e1 e2 => by
    obtain ⟨lc2, b2, k1, _⟩ := x4.blk _ _ e1
    rw [hex _ _ _ k1] at e2; cases e2; exact k1
  have hfin : Rl W ρ' In (fapp (fapp L1 fr) (hu ++ b)) (app H u) (n + 1) := by
    refine hbase.ents (fun d' fb hm => ?_) (fun d1 f1 d2 f2 l1 l2 m1 m2 hne e1 e2 => ?_) (fun d1 f1 d2 f2 l1 l2 m1 m2 _ e1 e2 => ?_)
    · rcases List.mem_append.1 hm with hm | hm
      · obtain ⟨j, lc, g1, g2, g3, g4, c, g5, g6⟩ := entH d' fb hm
        have hlc := List.mem_of_getElem? g2
        refine ⟨lc, c, g3, g4, g5, g6, hIn _ (B.own lc hlc).1, ?_⟩
        rcases (B.own lc hlc).2 with h2 | ⟨k, l, h2, _, h4⟩
        · exact hW _ h2
        · rw [← h4]; exact lsW l (List.mem_of_getElem? h2)
      · obtain ⟨k, lc, c, g1, g2, g3, g4, _, c', g5, g6⟩ := entB d' fb hm
        exact ⟨lc, c', g3, g4, g5, g6, hIn _ (B.out k lc c g1 g2).1, lsW lc (List.mem_of_getElem? g1)⟩
    · rcases List.mem_append.1 m1 with m1 | m1 <;> rcases List.mem_append.1 m2 with m2 | m2
      · obtain ⟨j, lc, g1, g2, g3, _⟩ := entH d1 f1 m1
        obtain ⟨j', lc', g1', g2', g3', _⟩ := entH d2 f2 m2
        rw [g3] at e1; cases e1
        rw [g3'] at e2; cases e2
        intro e
        have : j = j' := nodup_get B.nd (a := l1.n) (by rw [List.getElem?_map, g2]; rfl) (by rw [List.getElem?_map, g2', e]; rfl)
        subst this
        rw [g1] at g1'
        exact hne (by cases g1'; rfl)
      · obtain ⟨j, lc, g1, g2, g3, _⟩ := entH d1 f1 m1
        obtain ⟨k, lc', c, g1', g2', g3', _⟩ := entB d2 f2 m2
        rw [g3] at e1; cases e1
        rw [g3'] at e2; cases e2
        exact wsls l1 (List.mem_of_getElem? g2) k l2 c g1' g2'
      · obtain ⟨j, lc, g1, g2, g3, _⟩ := entH d2 f2 m2
        obtain ⟨k, lc', c, g1', g2', g3', _⟩ := entB d1 f1 m1
        rw [g3'] at e1; cases e1
        rw [g3] at e2; cases e2
        exact fun e => wsls l2 (List.mem_of_getElem? g2) k l1 c g1' g2' e.symm
      · obtain ⟨k, g, fr', tr, ik, esz, c, c', e1', e2', e3', e4'⟩ := bk3 d1 f1 m1
        obtain ⟨k2, gg, fr2, tr2, ik2, esz2, cc, cc', e5', e6', e7', e8'⟩ := bk3 d2 f2 m2
        have hk : k < ls.length := by rw [← hls.1]; exact (List.getElem?_eq_some_iff.1 e1').1
        have hk2 : k2 < ls.length := by rw [← hls.1]; exact (List.getElem?_eq_some_iff.1 e5').1
        have hlk : ls[k]? = some ls[k] := List.getElem?_eq_getElem hk
        have hlk2 : ls[k2]? = some ls[k2] := List.getElem?_eq_getElem hk2
        have r1 := hls.2 k _ _ e1' hlk
        have r2 := hls.2 k2 _ _ e5' hlk2
        subst e3' e7'
        have z1 := hex _ _ _ r1
        have z2 := hex _ _ _ r2
        simp only [FB.g] at z1 z2 e1 e2
        rw [z1] at e1; cases e1
        rw [z2] at e2; cases e2
        intro e
        have : k = k2 := nodup_get lsnd (a := ls[k].n) (by rw [List.getElem?_map, hlk]; rfl) (by rw [List.getElem?_map, hlk2, e]; rfl)
        subst this
        rw [e1'] at e5'
        exact hne (by cases e5'; rfl)
    · have e2' := oldL1 d2 f2 l2 m2 e2
      rcases List.mem_append.1 m1 with m1 | m1
      · obtain ⟨j, lc, g1, g2, g3, _⟩ := entH d1 f1 m1
        rw [g3] at e1; cases e1
        exact wsB l1 (List.mem_of_getElem? g2) d2 f2 l2 m2 e2'
      · obtain ⟨k, lc', c, g1', g2', g3', _⟩ := entB d1 f1 m1
        rw [g3'] at e1; cases e1
        exact fun e => (hB d2 f2 m2 l2 e2').2 _ (List.mem_of_getElem? g1') e.symm
  have hLeq : fapp L (hu ++ b ++ fr) = fapp (fapp L1 fr) (hu ++ b) := by
    rw [fapp_append]
    refine fapp_congr fun d' hd => ?_
    have : ∀ x ∈ ts, x.1 ≠ d' := fun x hx e => by
      have : (flook (hu ++ b) d').isSome = true := flook_mem (by
        rw [List.map_append, bk1, ← e]
        exact List.mem_append_right _ (List.mem_map.2 ⟨x, hx, rfl⟩))
      rw [hd] at this; cases this
    show (match flook fr d' with | some b => b | none => L d') = (match flook fr d' with | some b => b | none => L1 d')
    rw [T.eq d' this]
  refine ⟨ρ', In, hex, hold, x1.trans x2, n3 ρ' hAtU hAtT hls.1, by rw [hLeq]; exact hfin, fun x hx => ?_, x9, fun d' fb lc e1 e2 => ?_⟩
  rotate_left
  · rw [hLeq] at e1
    have lsold : ∀ l ∈ ls, ∃ d0 fb0 lc0, L d0 = some fb0 ∧ ρ d0 fb0.g = some lc0 ∧ lc0.n = l.n := fun l hl => by
      obtain ⟨k, hk⟩ := lsn l hl
      obtain ⟨x, x1, x2, x3, x4, x5⟩ := tl k l hk
      exact ⟨x.1, x.2, l, x3, x2, rfl⟩
    rcases fapp_some e1 with e1 | ⟨e1, _⟩
    · rcases List.mem_append.1 e1 with e1 | e1
      · obtain ⟨j, lc', g1, g2, g3, _⟩ := entH d' fb e1
        rw [e2] at g3; cases g3
        rcases (B.own lc (List.mem_of_getElem? g2)).2 with h2 | ⟨k, l, h2, _, h4⟩
        · exact .inl h2
        · right; rw [← h4]; exact lsold l (List.mem_of_getElem? h2)
      · obtain ⟨k, lc', c, g1, g2, g3, _⟩ := entB d' fb e1
        rw [e2] at g3; cases g3
        exact .inr (lsold lc (List.mem_of_getElem? g1))
    · right
      obtain ⟨fb0, g1, g2⟩ := x7 d' fb e1
      exact ⟨d', fb0, lc, T.le _ _ g1, by rw [g2]; exact oldL1 d' fb lc e1 e2, rfl⟩
  rcases B.touch x hx with h2 | ⟨lc, h2, h3⟩
  · exact .inl h2
  · right
    obtain ⟨k, hk⟩ := lsn lc h2
    obtain ⟨y, y1, y2, y3, y4, y5⟩ := tl k lc hk
    have hmem : y.1 ∈ b.map (·.1) := by rw [bk1]; exact List.mem_map.2 ⟨y, List.mem_of_getElem? y1, rfl⟩
    refine ⟨⟨y.1, y.2, lc, y3, y4, y2, h3, flook_mem (by rw [List.map_append, List.map_append]; exact List.mem_append_left _ (List.mem_append_right _ hmem))⟩, ?_⟩
    obtain ⟨e, he, _⟩ := List.mem_map.1 hmem
    refine List.any_eq_true.2 ⟨e, List.mem_append_left _ (List.mem_append_right _ he), ?_⟩
    obtain ⟨d', ob⟩ := e
    cases ob with
    | none => rfl
    | some fb =>
      obtain ⟨k', g, fr', tr, ik, esz, c, c', e1', e2', e3', e4'⟩ := bk3 d' fb he
      obtain ⟨k2, lc2, c2, _, _, _, g4, g5, _⟩ := entB d' fb he
      subst e3'
      simp only [FB.fz] at g4
      simp only [FB.g] at g5
      subst g4
      simp [oldB, g5]
end
end Go.Proofs.YtalnnbokmpppjaaAb
