/- Regions of the functional machine are the abstract machine's. -/
import Derived.Test.YtalnnbokmpppjaaFmStep
namespace Go.Proofs.YtalnnbokmpppjaaAb
open Go
set_option linter.unusedVariables false
set_option linter.unusedSimpArgs false
/-- new names are under q -/
def Gr (q : Nm) (H H1 : Heap) : Prop := ∀ m, under q m = false → H m = none → H1 m = none
theorem Gr.refl (q : Nm) (H : Heap) : Gr q H H := fun _ _ h => h
theorem Gr.trans {q : Nm} {a b c : Heap} (h : Gr q a b) (k : Gr q b c) : Gr q a c := fun m h1 h2 => k m h1 (h m h1 h2)
theorem Gr.up {p q : Nm} {a b : Heap} (h : Gr q a b) (hq : under p q = true) : Gr p a b := fun m h1 h2 => h m (by
  cases hc : under q m
  · rfl
  · rw [under_trans hc hq] at h1; cases h1) h2
def EnvF (ρ : Rh) (I : Im) (e : FEnv) (e' : Env) : Prop := ∀ t, VF ρ I (e t) (e' t)
theorem EnvF.ext {ρ ρ' : Rh} {I I' : Im} {e : FEnv} {e' : Env} (h : EnvF ρ I e e') (hr : ExR ρ ρ') (hi : ExI I I') : EnvF ρ' I' e e' := fun t => (h t).ext hr hi
theorem EnvF.put {ρ : Rh} {I : Im} {e : FEnv} {e' : Env} (h : EnvF ρ I e e') (d : Option Nat) {v : FV} {v' : V} (k : VF ρ I v v') : EnvF ρ I (fput e d v) (put e' d v') := fun t => by
  cases d with
  | none => exact h t
  | some d =>
    simp only [fput, Go.Proofs.YtalnnbokmpppjaaAb.put, fset, set]
    split
    · exact k
    · exact h t
theorem VF.fv {ρ : Rh} {I : Im} {e : FEnv} {e' : Env} (h : ∀ t, VF ρ I (e t) (e' t)) (x : X) : VF ρ I (x.fv e) (x.ev e') := by
  cases x with
  | t i => exact h i
  | k v => exact VF.ofV v
/-- the state: the function machine's beside the abstract machine's; W: what may be written -/
structure SR (W : Nm → Prop) (ρ0 : Rh) (I0 : Im) (ρ : Rh) (I : Im) (H0 : Heap) (s : FSt) (st : St) : Prop where
  env : EnvF ρ I s.e st.env
  rl : Rl W ρ I s.L (app H0 st.u) s.n
  hr : ExR ρ0 ρ
  hi : ExI I0 I
  new : ∀ m b, I m = some b → I0 m = none → W m
  touch : ∀ x ∈ st.u, W x.1
theorem want_ok {ρ : Rh} {I : Im} {e : FEnv} {e' : Env} {g : Option (Nat × Bool)} (h : ∀ t b, g = some (t, b) → VF ρ I (e t) (e' t)) {w : Bool} (hw : fwant e g = some w) : wantedV e' g = w := by
  cases g with
  | none => cases hw; rfl
  | some q =>
    obtain ⟨t, b⟩ := q
    have h1 := h t b rfl
    simp only [fwant] at hw
    split at hw
    · rename_i c hc
      cases hw
      rw [hc] at h1
      simp only [wantedV, bool_f h1]
    · rename_i hc
      cases hw
      rw [hc] at h1
      obtain ⟨m, k1, _⟩ := tup_f h1
      simp only [wantedV, k1]
    · cases hw
section
variable {W : Nm → Prop} {ρ0 : Rh} {I0 : Im} {H0 : Heap} {call : CallF} {fcall : FCallF} {sg : Sg}
theorem Dn.touchW {ρ : Rh} {I : Im} {L : FHeap} {H : Heap} {n : Nat} {q : Nm} {v : FV} {fu : FUpd} {v' : V} {u : Upd} (h : Rl W ρ I L H n) (hW : ∀ m, under q m = true → W m) (D : Dn W q ρ I L H n v fu v' u) : (∀ x ∈ u, W x.1) ∧ Gr q H (app H u) ∧ (∀ x ∈ u, under q x.1 = true ∨ ∃ b, H x.1 = some b) := by
  obtain ⟨ρ', I', d1, d2, d3, d4, d5, d6, d7, d8⟩ := D
  have h3 : ∀ x ∈ u, under q x.1 = true ∨ ∃ b, H x.1 = some b := fun x hx => by
    rcases d6 x hx with h1 | ⟨⟨d, fb, lc, e1, e2, e3, e4, _⟩, _⟩
    · exact .inl h1
    · obtain ⟨lc', b, k1, k2, _⟩ := h.blk _ _ e1
      rw [e3] at k1; cases k1
      exact .inr ⟨b, by rw [← e4]; exact k2⟩
  refine ⟨fun x hx => ?_, fun m h1 h2 => ?_, h3⟩
  · rcases d6 x hx with h1 | ⟨⟨d, fb, lc, e1, e2, e3, e4, _⟩, _⟩
    · exact hW _ h1
    · rw [← e4]; exact (h.wr _ _ _ e1 e2 e3).2
  · rw [app_none (look_none_of fun x hx e => by
      rcases h3 x hx with h4 | ⟨b, h4⟩
      · rw [e, h1] at h4; cases h4
      · rw [e, h2] at h4; cases h4)]
    exact h2
theorem fregT_ok (hg : FGood call fcall) {p : Nm} (hW : ∀ m, under p m = true → W m) : ∀ (os : List O) (i : Nat) (s s' : FSt), fregT fcall sg os s = some s' → ∀ (ρ : Rh) (I : Im) (st : St), SR W ρ0 I0 ρ I H0 s st → (∀ k, i ≤ k → ∀ m, under (k :: p) m = true → app H0 st.u m = none) →
    ∃ st' ρ' I', regT call H0 p i os st = some st' ∧ SR W ρ0 I0 ρ' I' H0 s' st' ∧ Gr p (app H0 st.u) (app H0 st'.u)
  | [], i, s, s', h, ρ, I, st, hS, hN => by cases h; exact ⟨st, ρ, I, rfl, hS, Gr.refl _ _⟩
  | o :: os, i, s, s', h, ρ, I, st, hS, hN => by
    unfold fregT at h
    obtain ⟨w, hw, h1⟩ := Option.bind_eq_some_iff.1 h
    have hwt := want_ok (fun t b _ => hS.env t) hw
    unfold regT
    rw [hwt]
    cases w with
    | false =>
      simp only [Bool.false_eq_true, if_false] at h1 ⊢
      exact fregT_ok hg hW os (i + 1) _ s' h1 ρ I _ ⟨hS.env.put _ VF.undef, hS.rl, hS.hr, hS.hi, hS.new, hS.touch⟩ (fun k hk => hN k (by omega))
    | true =>
      simp only [if_true] at h1 ⊢
      obtain ⟨⟨v, fu⟩, hv, h2⟩ := Option.bind_eq_some_iff.1 h1
      have hWi : ∀ m, under (i :: p) m = true → W m := fun m hm => hW m (under_tail hm)
      obtain ⟨v', u, k1, D⟩ := fop_ok hg hS.rl (hN i (Nat.le_refl _)) hWi (sg := sg) (fun x _ => VF.fv hS.env x) hv
      obtain ⟨t1, t2, t3⟩ := D.touchW hS.rl hWi
      have D' := D
      obtain ⟨ρ', I', d1, d2, d3, d4, d5, d6, d7, d8⟩ := D
      rw [k1, Option.bind_some]
      have hS' : SR W ρ0 I0 ρ' I' H0 ⟨fput s.e o.dst v, fapp s.L fu, s.n + 1⟩ ⟨put st.env o.dst v', u ++ st.u⟩ := by
        refine ⟨(hS.env.ext d1 d3).put _ d4, by rw [← app_app]; exact d5, hS.hr.trans d1, hS.hi.trans d3, fun m b e1 e2 => ?_, fun x hx => ?_⟩
        · cases hI : I m with
          | some c => exact hS.new m c hI e2
          | none =>
            rcases d7 m b e1 hI with h3 | ⟨d, fb, lc, g1, g2, g3, g4⟩
            · exact hWi m h3
            · cases hf : fb.fz with
              | false => rw [← g3]; exact (hS.rl.wr _ _ _ g1 hf g2).2
              | true =>
                obtain ⟨lc', b', k1, k2, k3⟩ := hS.rl.blk _ _ g1
                rw [g2] at k1; cases k1
                cases fb with
                | iter => cases hf
                | row g fr tr ik esz c =>
                  obtain ⟨_, _, _, _, _, _, q7, _⟩ := k3
                  have := q7 hf
                  rw [g3, hI] at this; cases this
        · rcases List.mem_append.1 hx with hx | hx
          · exact t1 x hx
          · exact hS.touch x hx
      obtain ⟨st', ρ2, I2, g1, g2, g3⟩ := fregT_ok hg hW os (i + 1) _ s' h2 ρ' I' _ hS' (fun k hk m hm => by
        have h4 := hN k (by omega) m hm
        show app H0 (u ++ st.u) m = none
        rw [← app_app]
        refine t2 m ?_ h4
        cases hc : under (i :: p) m
        · rfl
        · exact absurd (under_two hm hc) (by omega))
      refine ⟨st', ρ2, I2, g1, g2, Gr.trans (t2.up (under_cons i p)) ?_⟩
      rw [app_app]; exact g3
end
/-! ### Regions in an open order -/
def Has (ops : List O) (m : Nat) : Option Nat → Prop
  | none => True
  | some j => m.testBit j = true ∧ ∀ k, (preOf ops j).testBit k = true → m.testBit k = true
open Classical in
/-- what is read-only, seen by those that wait for m; mk tells by whom it became so -/
noncomputable def Iv (ops : List O) (I : Im) (mk : Nm → Option Nat) (m : Nat) : Im := fun x => if Has ops m (mk x) then I x else none
theorem Iv_some {ops : List O} {I : Im} {mk : Nm → Option Nat} {m : Nat} {x : Nm} {b : Blk} (h : Iv ops I mk m x = some b) : I x = some b ∧ Has ops m (mk x) := by
  unfold Iv at h
  split at h
  · exact ⟨h, ‹_›⟩
  · cases h
theorem Iv_of {ops : List O} {I : Im} {mk : Nm → Option Nat} {m : Nat} {x : Nm} {b : Blk} (h : I x = some b) (k : Has ops m (mk x)) : Iv ops I mk m x = some b := by
  unfold Iv; rw [if_pos k]; exact h
structure IN (W : Nm → Prop) (ops : List O) (H : Heap) (p : Nm) (i : Nat) (ρ : Rh) (I : Im) (mk : Nm → Option Nat) (dt : Nat → Option Nat) (e : FEnv) (e' : Env) (L : FHeap) (n : Nat) (Wl : List (Nat × Nat)) (us : List (Nat × Upd)) : Prop where
  env : ∀ t m, Has ops m (dt t) → VF ρ (Iv ops I mk m) (e t) (e' t)
  dts : ∀ t j, dt t = some j → j < i ∧ ∃ o, ops[j]? = some o ∧ o.dst = some t
  gen : ∀ d g lc, ρ d g = some lc → g < n
  blk : ∀ d fb, L d = some fb → ∃ lc b, ρ d fb.g = some lc ∧ ∀ m, Has ops m (wlook Wl d) → app H (sel m us) lc.n = some b ∧ BRel ρ (Iv ops I mk m) lc fb b
  wls : ∀ d j, wlook Wl d = some j → j < i
  inj : ∀ d d' fb fb' lc lc', L d = some fb → L d' = some fb' → d ≠ d' → ρ d fb.g = some lc → ρ d' fb'.g = some lc' → lc.n ≠ lc'.n
  wr : ∀ d fb lc, L d = some fb → fb.fz = false → ρ d fb.g = some lc → I lc.n = none ∧ W lc.n
  imm : ∀ m x b, Iv ops I mk m x = some b → app H (sel m us) x = some b
  mks : ∀ x j, mk x = some j → j < i
  us1 : ∀ q ∈ us, q.1 < i
  new : ∀ k, i ≤ k → (∀ x, under (k :: p) x = true → H x = none) ∧ ∀ q ∈ us, ∀ y ∈ q.2, under (k :: p) y.1 = false
  touch : ∀ q ∈ us, ∀ y ∈ q.2, W y.1
section
variable {W : Nm → Prop} {ops : List O} {H : Heap} {p : Nm}
theorem Has.all {ops : List O} (hok : regOK ops = true) {j : Nat} (hj : j < ops.length) : Has ops (2 ^ ops.length - 1) (some j) :=
  ⟨by rw [Nat.testBit_two_pow_sub_one]; simpa using hj, fun k hk => by rw [Nat.testBit_two_pow_sub_one]; have := pre_lt hok hk; simp; omega⟩
theorem Has.pre (hok : regOK ops = true) {i j : Nat} (h : (preOf ops i).testBit j = true) : Has ops (preOf ops i) (some j) := ⟨h, fun k hk => pre_trans hok h hk⟩
theorem Has.mono {m m' : Nat} {w : Option Nat} (h : Has ops m w) (hm : ∀ k, m.testBit k = true → m'.testBit k = true) : Has ops m' w := by
  cases w with
  | none => trivial
  | some j => exact ⟨hm _ h.1, fun k hk => hm _ (h.2 k hk)⟩
theorem mem_sel {m : Nat} {y : Nm × Option Blk} : ∀ {us : List (Nat × Upd)}, y ∈ sel m us → ∃ q ∈ us, y ∈ q.2
  | [], h => by simp [sel] at h
  | (j, u) :: us, h => by
    by_cases hb : m.testBit j = true
    · simp only [sel, hb, if_true, List.mem_append] at h
      rcases h with h | h
      · exact ⟨(j, u), by simp, h⟩
      · obtain ⟨q, hq, h3⟩ := mem_sel h
        exact ⟨q, List.mem_cons_of_mem _ hq, h3⟩
    · simp only [sel, hb, Bool.false_eq_true, if_false] at h
      obtain ⟨q, hq, h3⟩ := mem_sel h
      exact ⟨q, List.mem_cons_of_mem _ hq, h3⟩
/-- a live block's name is not under a road that is not yet gone -/
theorem IN.off {i : Nat} {ρ : Rh} {I : Im} {mk : Nm → Option Nat} {dt : Nat → Option Nat} {e : FEnv} {e' : Env} {L : FHeap} {n : Nat} {Wl : List (Nat × Nat)} {us : List (Nat × Upd)} (h : IN W ops H p i ρ I mk dt e e' L n Wl us) {m : Nat} {x : Nm} {b : Blk} (hx : app H (sel m us) x = some b) {k : Nat} (hk : i ≤ k) : under (k :: p) x = false := by
  cases hc : under (k :: p) x
  · rfl
  · obtain ⟨h1, h2⟩ := h.new k hk
    have : app H (sel m us) x = none := by
      rw [app_none (look_none_of fun y hy ey => ?_)]
      · exact h1 x hc
      · have : ∃ q ∈ us, y ∈ q.2 := mem_sel hy
        obtain ⟨q, hq, hy2⟩ := this
        have := h2 q hq y hy2
        rw [ey, hc] at this; cases this
    rw [this] at hx; cases hx
theorem IN.view {i : Nat} {ρ : Rh} {I : Im} {mk : Nm → Option Nat} {dt : Nat → Option Nat} {e : FEnv} {e' : Env} {L : FHeap} {n : Nat} {Wl : List (Nat × Nat)} {us : List (Nat × Upd)} (hok : regOK ops = true) (h : IN W ops H p i ρ I mk dt e e' L n Wl us) :
    Rl W ρ (Iv ops I mk (preOf ops i)) (vis Wl (preOf ops i) L) (app H (sel (preOf ops i) us)) n := by
  have hv : ∀ d fb, vis Wl (preOf ops i) L d = some fb → L d = some fb ∧ Has ops (preOf ops i) (wlook Wl d) := fun d fb k => by
    unfold vis at k
    split at k
    · rename_i hw; exact ⟨k, by rw [hw]; trivial⟩
    · rename_i j hw
      split at k
      · rename_i hb; exact ⟨k, by rw [hw]; exact Has.pre hok hb⟩
      · cases k
  refine ⟨h.gen, fun d fb k => ?_, fun d d' fb fb' lc lc' k k' => h.inj d d' fb fb' lc lc' (hv d fb k).1 (hv d' fb' k').1, h.imm _, fun d fb lc k hf e => ?_⟩
  · obtain ⟨k1, k2⟩ := hv d fb k
    obtain ⟨lc, b, h1, h2⟩ := h.blk d fb k1
    exact ⟨lc, b, h1, (h2 _ k2).1, (h2 _ k2).2⟩
  · obtain ⟨w1, w2⟩ := h.wr d fb lc (hv d fb k).1 hf e
    refine ⟨?_, w2⟩
    unfold Iv; split
    · exact w1
    · rfl
theorem wlook_map (fu : FUpd) (i : Nat) (Wl : List (Nat × Nat)) (d : Nat) : wlook (fu.map (fun q => (q.1, i)) ++ Wl) d = if (flook fu d).isSome then some i else wlook Wl d := by
  induction fu with
  | nil => rfl
  | cons q fu ih =>
    obtain ⟨x, b⟩ := q
    simp only [List.map_cons, List.cons_append, wlook, flook]
    split
    · rfl
    · exact ih
theorem IN.step {call : CallF} {fcall : FCallF} {sg : Sg} (hg : FGood call fcall) (hok : regOK ops = true) (hW : ∀ m, under p m = true → W m) {i : Nat} {o : O} (ho : ops[i]? = some o) {ρ : Rh} {I : Im} {mk : Nm → Option Nat} {dt : Nat → Option Nat} {e : FEnv} {e' : Env} {L : FHeap} {n : Nat} {Wl : List (Nat × Nat)} {us : List (Nat × Upd)}
    (h : IN W ops H p i ρ I mk dt e e' L n Wl us) {v : FV} {fu : FUpd} (hv : fvI fcall sg e (vis Wl o.pre L) (dstD o.dst) n o.op = some (v, fu)) (hiso : (o.iso || !olds n fu) = true) :
    ∃ v' u ρ' I' mk' dt', evI call e' (app H (sel o.pre us)) (i :: p) o.op = some (v', u) ∧ (quiet (i :: p) u || (o.iso && tidy (app H (sel o.pre us)) (i :: p) u)) = true ∧ ExR ρ ρ' ∧ ExI I I' ∧ (∀ m b, I' m = some b → I m = none → W m) ∧
      IN W ops H p (i + 1) ρ' I' mk' dt' (fput e o.dst v) (put e' o.dst v') (fapp L fu) (n + 1) (fu.map (fun q => (q.1, i)) ++ Wl) ((i, u) :: us) := by
  have hpre : o.pre = preOf ops i := (preOf_some ho).symm
  rw [hpre] at hv ⊢
  have hV := h.view hok
  have hNi : ∀ x, under (i :: p) x = true → ∀ m, app H (sel m us) x = none := fun x hx m => by
    cases hc : app H (sel m us) x with
    | none => rfl
    | some b => have := h.off hc (Nat.le_refl i); rw [hx] at this; cases this
  have hx : ∀ x ∈ o.op.xs, VF ρ (Iv ops I mk (preOf ops i)) (x.fv e) (x.ev e') := fun x hx => by
    cases x with
    | k c => exact VF.ofV c
    | t t =>
      refine h.env t _ ?_
      cases hd : dt t with
      | none => trivial
      | some j =>
        obtain ⟨h1, q, h2, h3⟩ := h.dts t j hd
        have h4 := (reg_at hok ho h2).2.1 t h3 (.inl (by
          unfold O.ts
          exact List.mem_append_left _ (List.mem_flatMap.2 ⟨_, hx, by simp [X.ts]⟩)))
        unfold ordOK at h4
        simp only [Bool.or_eq_true, beq_iff_eq] at h4
        rcases h4 with (h4 | h4) | h4
        · omega
        · exact Has.pre hok h4
        · have := pre_lt hok h4; omega
  have hWi : ∀ m, under (i :: p) m = true → W m := fun m hm => hW m (under_tail hm)
  obtain ⟨v', u, k1, D⟩ := fop_ok hg hV (fun m hm => hNi m hm _) hWi hx hv
  obtain ⟨t1, t2, t3⟩ := D.touchW hV hWi
  obtain ⟨ρ', I2, d1, d2, d3, d4, d5, d6, d7, d8⟩ := D
  -- visible blocks
  have hv0 : ∀ d fb, vis Wl (preOf ops i) L d = some fb → L d = some fb ∧ Has ops (preOf ops i) (wlook Wl d) := fun d fb k => by
    unfold vis at k
    split at k
    · rename_i hw; exact ⟨k, by rw [hw]; trivial⟩
    · rename_i j hw
      split at k
      · rename_i hb; exact ⟨k, by rw [hw]; exact Has.pre hok hb⟩
      · cases k
  -- the new read-only blocks
  have newI : ∀ x b, I2 x = some b → Iv ops I mk (preOf ops i) x = none → I x = none ∧ (under (i :: p) x = true ∨ ∃ d fb lc, vis Wl (preOf ops i) L d = some fb ∧ fb.fz = false ∧ ρ d fb.g = some lc ∧ lc.n = x ∧ (flook fu d).isSome = true) := fun x b e1 e2 => by
    rcases d7 x b e1 e2 with h3 | ⟨d, fb, lc, g1, g2, g3, g4⟩
    · refine ⟨?_, .inl h3⟩
      cases hI : I x with
      | none => rfl
      | some c =>
        have hall : ∃ m, Has ops m (mk x) := by
          cases hm : mk x with
          | none => exact ⟨0, trivial⟩
          | some j =>
            have := h.mks x j hm
            have hi : i < ops.length := (List.getElem?_eq_some_iff.1 ho).1
            exact ⟨_, Has.all hok (by omega)⟩
        obtain ⟨m, hm⟩ := hall
        have := h.imm m x c (Iv_of hI hm)
        rw [hNi x h3 m] at this; cases this
    · cases hf : fb.fz with
      | false => exact ⟨by rw [← g3]; exact (h.wr _ _ _ (hv0 _ _ g1).1 hf g2).1, .inr ⟨d, fb, lc, g1, hf, g2, g3, g4⟩⟩
      | true =>
        obtain ⟨lc', b', k1, k2, k3⟩ := hV.blk _ _ g1
        rw [g2] at k1; cases k1
        cases fb with
        | iter => cases hf
        | row g fr tr ik esz c =>
          obtain ⟨_, _, _, _, _, _, q7, _⟩ := k3
          have := q7 hf
          rw [g3, e2] at this; cases this
  let I' : Im := fun x => match I x with | some b => some b | none => I2 x
  let mk' : Nm → Option Nat := fun x => match I x with | some b => mk x | none => match I2 x with | some b => some i | none => none
  have hI' : ∀ x b, I x = some b → I' x = some b ∧ mk' x = mk x := fun x b hb => by
    constructor
    · show (match I x with | some b => some b | none => I2 x) = _; rw [hb]
    · show (match I x with | some b => mk x | none => match I2 x with | some b => some i | none => none) = _; rw [hb]
  have hI'n : ∀ x, I x = none → I' x = I2 x := fun x hb => by show (match I x with | some b => some b | none => I2 x) = _; rw [hb]
  have hmkn : ∀ x b, I x = none → I2 x = some b → mk' x = some i := fun x b hb h2 => by
    show (match I x with | some b => mk x | none => match I2 x with | some b => some i | none => none) = _
    rw [hb]; simp only; rw [h2]
  have exIv : ∀ m, ExI (Iv ops I mk m) (Iv ops I' mk' m) := fun m x b hb => by
    obtain ⟨h1, h2⟩ := Iv_some hb
    obtain ⟨h3, h4⟩ := hI' x b h1
    exact Iv_of h3 (by rw [h4]; exact h2)
  have exI2 : ∀ m, Has ops m (some i) → ExI I2 (Iv ops I' mk' m) := fun m hm x b hb => by
    cases hc : Iv ops I mk (preOf ops i) x with
    | some c =>
      have := d3 x c hc
      rw [hb] at this; cases this
      obtain ⟨h1, h2⟩ := Iv_some hc
      obtain ⟨h3, h4⟩ := hI' x b h1
      exact Iv_of h3 (by rw [h4]; exact h2.mono hm.2)
    | none =>
      have hIn := (newI x b hb hc).1
      exact Iv_of (by rw [hI'n x hIn]; exact hb) (by rw [hmkn x b hIn hb]; exact hm)
  have hHasI : Has ops (preOf ops i ||| 2 ^ i) (some i) := ⟨by simp [Nat.testBit_or, Nat.testBit_two_pow], fun k hk => by simp [Nat.testBit_or, hk]⟩
  -- where the operation's writes do not fall, all stays
  have keep : ∀ x b m, app H (sel m us) x = some b → (∀ d fb lc, vis Wl (preOf ops i) L d = some fb → fb.fz = false → ρ d fb.g = some lc → (flook fu d).isSome = true → lc.n ≠ x) → app H (sel m ((i, u) :: us)) x = some b := fun x b m h1 h2 => by
    simp only [sel]
    split
    · rw [← app_app, app_none (look_none_of fun y hy ey => ?_)]
      · exact h1
      · rcases d6 y hy with h3 | ⟨⟨d, fb, lc, g1, g2, g3, g4, g5⟩, _⟩
        · rw [ey, h.off h1 (Nat.le_refl i)] at h3; cases h3
        · exact h2 d fb lc g1 g2 g3 g5 (g4.trans ey)
    · exact h1
  -- what the operation sees afterwards is what those see who wait for it
  have seen : ∀ x b m, Has ops m (some i) → app (app H (sel (preOf ops i) us)) u x = some b → (under (i :: p) x = true ∨ ∃ d fb lc, vis Wl (preOf ops i) L d = some fb ∧ ρ d fb.g = some lc ∧ lc.n = x) → app H (sel m ((i, u) :: us)) x = some b := fun x b m hm h1 h2 => by
    simp only [sel, hm.1, if_true]
    rw [← app_app]
    cases hl : look u x with
    | some ob => rw [app_some hl] at h1 ⊢; exact h1
    | none =>
      rw [app_none hl] at h1 ⊢
      rcases h2 with h2 | ⟨d, fb, lc, g1, g2, rfl⟩
      · rw [hNi x h2] at h1; cases h1
      · obtain ⟨q1, q2⟩ := hv0 d fb g1
        obtain ⟨lc', b', k1, k2⟩ := h.blk d fb q1
        rw [g2] at k1; cases k1
        have e1 := (k2 _ q2).1
        rw [h1] at e1; cases e1
        exact (k2 m (q2.mono hm.2)).1
  have liveH : ∀ d fb lc, L d = some fb → ρ d fb.g = some lc → ∃ m b, app H (sel m us) lc.n = some b := fun d fb lc g1 g2 => by
    obtain ⟨lc', b, k1, k2⟩ := h.blk d fb g1
    rw [g2] at k1; cases k1
    have hall : ∃ m, Has ops m (wlook Wl d) := by
      cases hm : wlook Wl d with
      | none => exact ⟨0, trivial⟩
      | some j =>
        have := h.wls d j hm
        have hi : i < ops.length := (List.getElem?_eq_some_iff.1 ho).1
        exact ⟨_, Has.all hok (by omega)⟩
    obtain ⟨m, hm⟩ := hall
    exact ⟨m, b, (k2 m hm).1⟩
  have hL' : ∀ d fb, fapp L fu d = some fb → ((flook fu d).isSome = true ∧ fapp (vis Wl (preOf ops i) L) fu d = some fb) ∨ (flook fu d = none ∧ L d = some fb) := fun d fb k => by
    have k' : (match flook fu d with | some b => b | none => L d) = some fb := k
    cases hf : flook fu d with
    | none => rw [hf] at k'; exact .inr ⟨rfl, k'⟩
    | some ob =>
      rw [hf] at k'
      refine .inl ⟨rfl, ?_⟩
      show (match flook fu d with | some b => b | none => vis Wl (preOf ops i) L d) = some fb
      rw [hf]; exact k'
  have oldρ : ∀ d fb lc, L d = some fb → ρ' d fb.g = some lc → ρ d fb.g = some lc := fun d fb lc g1 g2 => by
    obtain ⟨lc', b, k1, _⟩ := h.blk d fb g1
    rw [d1 _ _ _ k1] at g2; cases g2; exact k1
  -- an old block not written now lies elsewhere than those written
  have apart : ∀ d fb lc, L d = some fb → ρ d fb.g = some lc → flook fu d = none → ∀ d' fb' lc', vis Wl (preOf ops i) L d' = some fb' → fb'.fz = false → ρ d' fb'.g = some lc' → (flook fu d').isSome = true → lc'.n ≠ lc.n := fun d fb lc g1 g2 g3 d' fb' lc' g4 g5 g6 g7 => by
    have hne : d' ≠ d := fun e => by rw [e, g3] at g7; cases g7
    exact h.inj _ _ _ _ _ _ (hv0 _ _ g4).1 g1 hne g6 g2
  refine ⟨v', u, ρ', I', mk', fun t => if o.dst = some t then some i else dt t, k1, ?_, d1, fun x b hb => (hI' x b hb).1, fun x b e1 e2 => ?_, ?_⟩
  · by_cases hq : quiet (i :: p) u = true
    · rw [hq]; rfl
    · have hold : olds n fu = true := by
        cases hc : olds n fu
        · exfalso
          refine hq (List.all_eq_true.2 fun y hy => ?_)
          rcases d6 y hy with h3 | ⟨_, h3⟩
          · exact h3
          · rw [hc] at h3; cases h3
        · rfl
      rw [hold] at hiso
      simp only [Bool.not_true, Bool.or_false] at hiso
      rw [hiso]
      simp only [Bool.true_and, Bool.or_eq_true]
      refine .inr (List.all_eq_true.2 fun y hy => ?_)
      rcases t3 y hy with h3 | ⟨b, h3⟩
      · rw [h3]; rfl
      · rw [h3]; simp
  · rw [hI'n x e2] at e1
    cases hc : Iv ops I mk (preOf ops i) x with
    | some c => rw [(Iv_some hc).1] at e2; cases e2
    | none =>
      rcases (newI x b e1 hc).2 with h3 | ⟨d, fb, lc, g1, g2, g3, g4, _⟩
      · exact hWi x h3
      · rw [← g4]; exact (h.wr _ _ _ (hv0 _ _ g1).1 g2 g3).2
  · refine ⟨fun t m hm => ?_, fun t j hj => ?_, d5.gen, fun d fb k => ?_, fun d j hj => ?_, fun d d' fb fb' lc lc' k k' hne e1 e2 => ?_, fun d fb lc k hf e1 => ?_, fun m x b hb => ?_, fun x j hj => ?_, fun q hq => ?_, fun k hk => ⟨(h.new k (by omega)).1, fun q hq y hy => ?_⟩, fun q hq y hy => ?_⟩
    · -- env
      replace hm : Has ops m (if o.dst = some t then some i else dt t) := hm
      cases hd : o.dst with
      | none =>
        rw [hd] at hm
        simp only [reduceCtorEq, if_false] at hm
        exact (h.env t m hm).ext d1 (exIv m)
      | some d =>
        rw [hd] at hm
        simp only [fput, put, fset, set, Option.some.injEq] at hm ⊢
        by_cases e1 : t = d
        · rw [if_pos e1.symm] at hm
          rw [if_pos e1, if_pos e1]
          exact d4.ext (ExR.refl _) (exI2 m hm)
        · rw [if_neg (fun e => e1 e.symm)] at hm
          rw [if_neg e1, if_neg e1]
          exact (h.env t m hm).ext d1 (exIv m)
    · replace hj : (if o.dst = some t then some i else dt t) = some j := hj
      split at hj
      · rename_i e1; cases hj; exact ⟨by omega, o, ho, e1⟩
      · obtain ⟨h1, h2⟩ := h.dts t j hj; exact ⟨by omega, h2⟩
    · -- blocks
      rw [wlook_map]
      rcases hL' d fb k with ⟨g1, g2⟩ | ⟨g1, g2⟩
      · obtain ⟨lc, b, k2, k3, k4⟩ := d5.blk d fb g2
        refine ⟨lc, b, k2, fun m hm => ?_⟩
        rw [g1] at hm
        simp only [if_true] at hm
        exact ⟨seen _ _ m hm k3 (d8 d fb lc g2 k2 |>.imp id fun ⟨d0, fb0, lc0, q1, q2, q3⟩ => ⟨d0, fb0, lc0, q1, q2, q3⟩), k4.ext (ExR.refl _) (exI2 m hm)⟩
      · obtain ⟨lc, b, k2, k3⟩ := h.blk d fb g2
        refine ⟨lc, b, d1 _ _ _ k2, fun m hm => ?_⟩
        rw [g1] at hm
        simp only [Option.isSome_none, Bool.false_eq_true, if_false] at hm
        obtain ⟨k4, k5⟩ := k3 m hm
        exact ⟨keep _ _ m k4 (apart d fb lc g2 k2 g1), k5.ext d1 (exIv m)⟩
    · rw [wlook_map] at hj
      split at hj
      · cases hj; omega
      · have := h.wls d j hj; omega
    · -- apart
      rcases hL' d fb k with ⟨g1, g2⟩ | ⟨g1, g2⟩ <;> rcases hL' d' fb' k' with ⟨g3, g4⟩ | ⟨g3, g4⟩
      · exact d5.inj d d' fb fb' lc lc' g2 g4 hne e1 e2
      · have e2' := oldρ d' fb' lc' g4 e2
        rcases d8 d fb lc g2 e1 with h3 | ⟨d0, fb0, lc0, q1, q2, q3⟩
        · intro e
          obtain ⟨m, b, hb⟩ := liveH d' fb' lc' g4 e2'
          rw [← e] at hb
          rw [h.off hb (Nat.le_refl i)] at h3; cases h3
        · by_cases e0 : d0 = d'
          · -- the same block: written now, though it was not
            subst e0
            rw [(hv0 _ _ q1).1] at g4; cases g4
            rw [q2] at e2'; cases e2'
            have hvis : fapp (vis Wl (preOf ops i) L) fu d0 = some fb' := by
              show (match flook fu d0 with | some b => b | none => vis Wl (preOf ops i) L d0) = some fb'
              rw [g3]; exact q1
            exact d5.inj d d0 fb fb' lc _ g2 hvis hne e1 e2
          · rw [← q3]; exact h.inj _ _ _ _ _ _ (hv0 _ _ q1).1 g4 e0 q2 e2'
      · have e1' := oldρ d fb lc g2 e1
        rcases d8 d' fb' lc' g4 e2 with h3 | ⟨d0, fb0, lc0, q1, q2, q3⟩
        · intro e
          obtain ⟨m, b, hb⟩ := liveH d fb lc g2 e1'
          rw [e] at hb
          rw [h.off hb (Nat.le_refl i)] at h3; cases h3
        · by_cases e0 : d0 = d
          · subst e0
            rw [(hv0 _ _ q1).1] at g2; cases g2
            rw [q2] at e1'; cases e1'
            have hvis : fapp (vis Wl (preOf ops i) L) fu d0 = some fb := by
              show (match flook fu d0 with | some b => b | none => vis Wl (preOf ops i) L d0) = some fb
              rw [g1]; exact q1
            exact d5.inj d0 d' fb fb' _ lc' hvis g4 hne e1 e2
          · rw [← q3]; exact fun e => h.inj _ _ _ _ _ _ (hv0 _ _ q1).1 g2 e0 q2 e1' e.symm
      · exact h.inj _ _ _ _ _ _ g2 g4 hne (oldρ d fb lc g2 e1) (oldρ d' fb' lc' g4 e2)
    · -- written
      rcases hL' d fb k with ⟨g1, g2⟩ | ⟨g1, g2⟩
      · obtain ⟨w1, w2⟩ := d5.wr d fb lc g2 hf e1
        refine ⟨?_, w2⟩
        cases hI : I lc.n with
        | none => rw [hI'n _ hI]; exact w1
        | some c =>
          exfalso
          rcases d8 d fb lc g2 e1 with h3 | ⟨d0, fb0, lc0, q1, q2, q3⟩
          · have hall : ∃ m, Has ops m (mk lc.n) := by
              cases hm : mk lc.n with
              | none => exact ⟨0, trivial⟩
              | some j =>
                have := h.mks lc.n j hm
                have hi : i < ops.length := (List.getElem?_eq_some_iff.1 ho).1
                exact ⟨_, Has.all hok (by omega)⟩
            obtain ⟨m, hm⟩ := hall
            have := h.imm m _ c (Iv_of hI hm)
            rw [hNi _ h3 m] at this; cases this
          · cases hfz : fb0.fz with
            | false => have := (h.wr _ _ _ (hv0 _ _ q1).1 hfz q2).1; rw [q3, hI] at this; cases this
            | true =>
              obtain ⟨lc', b', k1, k2, k3⟩ := hV.blk _ _ q1
              rw [q2] at k1; cases k1
              cases fb0 with
              | iter => cases hfz
              | row g fr tr ik esz c =>
                obtain ⟨_, _, _, _, _, _, q7, _⟩ := k3
                have := d3 _ _ (q7 hfz)
                rw [q3, w1] at this; cases this
      · have e1' := oldρ d fb lc g2 e1
        obtain ⟨w1, w2⟩ := h.wr d fb lc g2 hf e1'
        refine ⟨?_, w2⟩
        rw [hI'n _ w1]
        cases hI2 : I2 lc.n with
        | none => rfl
        | some c =>
          exfalso
          have hIv : Iv ops I mk (preOf ops i) lc.n = none := by unfold Iv; rw [w1]; split <;> rfl
          rcases (newI _ c hI2 hIv).2 with h3 | ⟨d', fb', lc', q1, q2, q3, q4, q5⟩
          · obtain ⟨m, b, hb⟩ := liveH d fb lc g2 e1'
            rw [h.off hb (Nat.le_refl i)] at h3; cases h3
          · exact apart d fb lc g2 e1' g1 d' fb' lc' q1 q2 q3 q5 q4
    · -- read-only
      obtain ⟨h1, h2⟩ := Iv_some hb
      cases hI : I x with
      | some c =>
        obtain ⟨h3, h4⟩ := hI' x c hI
        rw [h3] at h1; cases h1
        rw [h4] at h2
        have hm := h.imm m x b (Iv_of hI h2)
        refine keep x b m hm fun d fb lc g1 g2 g3 _ e3 => ?_
        have := (h.wr _ _ _ (hv0 _ _ g1).1 g2 g3).1
        rw [e3, hI] at this; cases this
      | none =>
        rw [hI'n x hI] at h1
        rw [hmkn x b hI h1] at h2
        have hIv : Iv ops I mk (preOf ops i) x = none := by unfold Iv; rw [hI]; split <;> rfl
        refine seen x b m h2 (d5.imm x b h1) ?_
        rcases (newI x b h1 hIv).2 with h3 | ⟨d, fb, lc, g1, _, g3, g4, _⟩
        · exact .inl h3
        · exact .inr ⟨d, fb, lc, g1, g3, g4⟩
    · cases hI : I x with
      | some c => rw [(hI' x c hI).2] at hj; have := h.mks x j hj; omega
      | none =>
        have : mk' x = match I2 x with | some b => some i | none => none := by
          show (match I x with | some b => mk x | none => match I2 x with | some b => some i | none => none) = _
          rw [hI]
        rw [this] at hj
        cases hI2 : I2 x with
        | none => rw [hI2] at hj; cases hj
        | some c => rw [hI2] at hj; cases hj; omega
    · rcases List.mem_cons.1 hq with rfl | hq
      · exact Nat.lt_succ_self i
      · have := h.us1 q hq; omega
    · rcases List.mem_cons.1 hq with rfl | hq
      · rcases t3 y hy with h3 | ⟨b, h3⟩
        · cases hc : under (k :: p) y.1
          · rfl
          · exact absurd (under_two hc h3) (by omega)
        · exact h.off h3 (by omega)
      · exact (h.new k (by omega)).2 q hq y hy
    · rcases List.mem_cons.1 hq with rfl | hq
      · exact t1 y hy
      · exact h.touch q hq y hy
end
end Go.Proofs.YtalnnbokmpppjaaAb
