/- What the functional machine answers, the abstract machine answers. -/
import Derived.Test.YtalnnbokmpppjaaFmRun
namespace Go.Proofs.YtalnnbokmpppjaaAb
open Go
set_option linter.unusedVariables false
set_option linter.unusedSimpArgs false
def C.okR : C → Bool
  | .reg true ops => regOK ops
  | .seq a b => a.okR && b.okR
  | .cond _ a b => a.okR && b.okR
  | .blk _ a => a.okR
  | .loop a => a.okR
  | _ => true
section
variable {W : Nm → Prop} {ρ0 : Rh} {I0 : Im} {H0 : Heap} {call : CallF} {fcall : FCallF} {sg : Sg}
theorem sel_all {m : Nat} : ∀ {us : List (Nat × Upd)}, (∀ q ∈ us, m.testBit q.1 = true) → sel m us = allU us
  | [], _ => rfl
  | (j, u) :: us, h => by
    have h1 := h _ (List.mem_cons_self)
    simp only [sel, allU, h1, if_true]
    rw [sel_all fun q hq => h q (List.mem_cons_of_mem _ hq)]
theorem fregD_ok (hg : FGood call fcall) {p : Nm} (hW : ∀ m, under p m = true → W m) {ops : List O} (hok : regOK ops = true) {H : Heap} : ∀ (os : List O) (i : Nat) (Wl : List (Nat × Nat)) (s s' : FSt), fregD fcall sg i os Wl s = some s' → (∀ k, os[k]? = ops[i + k]?) →
    ∀ (ρ : Rh) (I : Im) (mk : Nm → Option Nat) (dt : Nat → Option Nat) (e' : Env) (us : List (Nat × Upd)), IN W ops H p i ρ I mk dt s.e e' s.L s.n Wl us →
    ∃ e2 us2 ρ' I' mk' dt' Wl', regD call H p i os e' us = some (e2, us2) ∧ ExR ρ ρ' ∧ ExI I I' ∧ (∀ m b, I' m = some b → I m = none → W m) ∧ IN W ops H p (i + os.length) ρ' I' mk' dt' s'.e e2 s'.L s'.n Wl' us2
  | [], i, Wl, s, s', h, _, ρ, I, mk, dt, e', us, hI => by
    cases h
    exact ⟨e', us, ρ, I, mk, dt, Wl, rfl, ExR.refl _, ExI.refl _, (fun m b h1 h2 => by rw [h2] at h1; cases h1), hI⟩
  | o :: os, i, Wl, s, s', h, hos, ρ, I, mk, dt, e', us, hI => by
    have ho : ops[i]? = some o := by have := hos 0; simpa using this.symm
    have hos' : ∀ k, os[k]? = ops[i + 1 + k]? := fun k => by have := hos (k + 1); rw [← Nat.add_assoc, Nat.add_right_comm] at this; simpa using this
    unfold fregD at h
    obtain ⟨w, hw, h1⟩ := Option.bind_eq_some_iff.1 h
    have hHi : ∀ t, (t ∈ o.ts) → VF ρ (Iv ops I mk (preOf ops i)) (s.e t) (e' t) := fun t ht => by
      refine hI.env t _ ?_
      cases hd : dt t with
      | none => trivial
      | some j =>
        obtain ⟨h1, q, h2, h3⟩ := hI.dts t j hd
        have h4 := (reg_at hok ho h2).2.1 t h3 (.inl ht)
        unfold ordOK at h4
        simp only [Bool.or_eq_true, beq_iff_eq] at h4
        rcases h4 with (h4 | h4) | h4
        · omega
        · exact Has.pre hok h4
        · have := pre_lt hok h4; omega
    have hwt := want_ok (fun t b hgb => hHi t (by unfold O.ts; rw [hgb]; simp)) hw
    have hlen : i + 1 + os.length = i + (o :: os).length := by simp; omega
    unfold regD
    rw [hwt]
    cases w with
    | false =>
      simp only [Bool.false_eq_true, if_false] at h1 ⊢
      have hI2 : IN W ops H p (i + 1) ρ I mk (fun t => if o.dst = some t then none else dt t) (fput s.e o.dst fundef) (put e' o.dst undefV) s.L s.n Wl us := by
        refine ⟨fun t m hm => ?_, fun t j hj => ?_, hI.gen, hI.blk, fun d j hj => by have := hI.wls d j hj; omega, hI.inj, hI.wr, hI.imm, fun x j hj => by have := hI.mks x j hj; omega, fun q hq => by have := hI.us1 q hq; omega, fun k hk => hI.new k (by omega), hI.touch⟩
        · replace hm : Has ops m (if o.dst = some t then none else dt t) := hm
          cases hd : o.dst with
          | none => rw [hd] at hm; simp only [reduceCtorEq, if_false] at hm; exact hI.env t m hm
          | some d =>
            rw [hd] at hm
            simp only [fput, put, fset, set, Option.some.injEq] at hm ⊢
            by_cases e1 : t = d
            · rw [if_pos e1, if_pos e1]; exact VF.undef
            · rw [if_neg (fun e => e1 e.symm)] at hm
              rw [if_neg e1, if_neg e1]; exact hI.env t m hm
        · replace hj : (if o.dst = some t then none else dt t) = some j := hj
          split at hj
          · cases hj
          · obtain ⟨h1, h2⟩ := hI.dts t j hj; exact ⟨by omega, h2⟩
      obtain ⟨e2, us2, ρ', I', mk', dt', Wl', g1, g2, g3, g4, g5⟩ := fregD_ok hg hW hok os (i + 1) Wl _ s' h1 hos' ρ I mk _ _ us hI2
      exact ⟨e2, us2, ρ', I', mk', dt', Wl', g1, g2, g3, g4, hlen ▸ g5⟩
    | true =>
      simp only [if_true] at h1 ⊢
      obtain ⟨⟨v, fu⟩, hv, h2⟩ := Option.bind_eq_some_iff.1 h1
      simp only at h2
      split at h2
      case isFalse => cases h2
      rename_i hiso
      obtain ⟨v', u, ρ1, I1, mk1, dt1, k1, k2, k3, k4, k5, k6⟩ := IN.step hg hok hW ho hI hv hiso
      rw [k1, Option.bind_some, if_pos k2]
      obtain ⟨e2, us2, ρ', I', mk', dt', Wl', g1, g2, g3, g4, g5⟩ := fregD_ok hg hW hok os (i + 1) _ _ s' h2 hos' ρ1 I1 mk1 dt1 _ _ k6
      refine ⟨e2, us2, ρ', I', mk', dt', Wl', g1, k3.trans g2, k4.trans g3, fun m b e3 e4 => ?_, hlen ▸ g5⟩
      cases hc : I1 m with
      | none => exact g4 m b e3 hc
      | some c => exact k5 m c hc e4
theorem fden_ok (hg : FGood call fcall) {n : Nat} : ∀ (c : C), c.okR = true → ∀ (p : Nm) (s : FSt) (r : Ex × FSt), fden fcall sg (fitN n) c s = some r → (∀ m, under p m = true → W m) → ∀ (ρ : Rh) (I : Im) (st : St), SR W ρ0 I0 ρ I H0 s st → (∀ m, under p m = true → app H0 st.u m = none) →
    ∃ st' ρ' I', den call (itN n) H0 c p st = some (r.1, st') ∧ SR W ρ0 I0 ρ' I' H0 r.2 st' ∧ Gr p (app H0 st.u) (app H0 st'.u) := by
  intro c
  induction c with
  | skip => intro _ p s r h hW ρ I st hS hN; cases h; exact ⟨st, ρ, I, rfl, hS, Gr.refl _ _⟩
  | exit id => intro _ p s r h hW ρ I st hS hN; cases h; exact ⟨st, ρ, I, rfl, hS, Gr.refl _ _⟩
  | ret => intro _ p s r h hW ρ I st hS hN; cases h; exact ⟨st, ρ, I, rfl, hS, Gr.refl _ _⟩
  | bad => intro _ p s r h; cases h
  | reg draw os =>
    intro hR p s r h hW ρ I st hS hN
    cases draw with
    | false =>
      unfold fden at h
      obtain ⟨s', hs, rfl⟩ := Option.map_eq_some_iff.1 h
      obtain ⟨st', ρ', I', g1, g2, g3⟩ := fregT_ok hg hW os 0 s s' hs ρ I st hS (fun k _ m hm => hN m (under_tail hm))
      exact ⟨st', ρ', I', by unfold den; rw [g1]; rfl, g2, g3⟩
    | true =>
      unfold fden at h
      obtain ⟨s', hs, rfl⟩ := Option.map_eq_some_iff.1 h
      have hok : regOK os = true := hR
      have hIv0 : ∀ m, Iv os I (fun _ => none) m = I := fun m => by
        funext x; unfold Iv; exact if_pos trivial
      have h0 : IN W os (app H0 st.u) p 0 ρ I (fun _ => none) (fun _ => none) s.e st.env s.L s.n [] [] := by
        refine ⟨fun t m _ => by rw [hIv0]; exact hS.env t, (fun t j hj => by cases hj), hS.rl.gen, fun d fb k => ?_, (fun d j hj => by cases hj), hS.rl.inj, hS.rl.wr, fun m x b hb => ?_, (fun x j hj => by cases hj), (fun q hq => by cases hq), (fun k _ => ⟨fun x hx => hN x (under_tail hx), fun q hq => by cases hq⟩), fun q hq => by cases hq⟩
        · obtain ⟨lc, b, k1, k2, k3⟩ := hS.rl.blk d fb k
          exact ⟨lc, b, k1, fun m _ => ⟨k2, by rw [hIv0]; exact k3⟩⟩
        · rw [hIv0] at hb; exact hS.rl.imm x b hb
      obtain ⟨e2, us2, ρ', I', mk', dt', Wl', g1, g2, g3, g4, g5⟩ := fregD_ok hg hW hok os 0 [] s s' hs (fun k => by simp) ρ I _ _ _ _ h0
      rw [Nat.zero_add] at g5
      let full := 2 ^ os.length - 1
      have hall : ∀ w, (∀ j, w = some j → j < os.length) → Has os full w := fun w hw => by
        cases w with
        | none => trivial
        | some j => exact Has.all hok (hw j rfl)
      have hsel : sel full us2 = allU us2 := sel_all fun q hq => (hall (some q.1) (fun j hj => by cases hj; exact g5.us1 q hq)).1
      have hIv : Iv os I' mk' full = I' := by
        funext x; unfold Iv; exact if_pos (hall _ fun j hj => g5.mks x j hj)
      refine ⟨⟨e2, allU us2 ++ st.u⟩, ρ', I', by unfold den; rw [g1]; rfl, ⟨fun t => ?_, ?_, hS.hr.trans g2, hS.hi.trans g3, fun m b e1 e2 => ?_, fun x hx => ?_⟩, fun m h1 h2 => ?_⟩
      · have := g5.env t full (hall _ fun j hj => (g5.dts t j hj).1)
        rw [hIv] at this; exact this
      · show Rl W ρ' I' s'.L (app H0 (allU us2 ++ st.u)) s'.n
        rw [← app_app, ← hsel]
        refine ⟨g5.gen, fun d fb k => ?_, g5.inj, fun m b hb => g5.imm full m b (by rw [hIv]; exact hb), g5.wr⟩
        obtain ⟨lc, b, k1, k2⟩ := g5.blk d fb k
        obtain ⟨k3, k4⟩ := k2 full (hall _ fun j hj => g5.wls d j hj)
        rw [hIv] at k4
        exact ⟨lc, b, k1, k3, k4⟩
      · cases hI : I m with
        | some c => exact hS.new m c hI e2
        | none => exact g4 m b e1 hI
      · rcases List.mem_append.1 hx with hx | hx
        · rw [← hsel] at hx
          obtain ⟨q, hq, h3⟩ := mem_sel hx
          exact g5.touch q hq x h3
        · exact hS.touch x hx
      · -- new names lie under p
        show app H0 (allU us2 ++ st.u) m = none
        cases hc : app H0 (allU us2 ++ st.u) m with
        | none => rfl
        | some b =>
          exfalso
          have hl : look (allU us2) m ≠ none := fun e => by
            rw [← app_app, app_none e, h2] at hc; cases hc
          -- which operation wrote it?
          have key : ∀ (ops' : List O) (i : Nat) (e e2 : Env) (us us2 : List (Nat × Upd)), regD call (app H0 st.u) p i ops' e us = some (e2, us2) → (∀ q ∈ us, ∀ y ∈ q.2, y.1 = m → under p m = true ∨ ∃ b, app H0 st.u m = some b) → ∀ q ∈ us2, ∀ y ∈ q.2, y.1 = m → under p m = true ∨ ∃ b, app H0 st.u m = some b := by
            intro ops'
            induction ops' with
            | nil => intro i e e2 us us2 h hu; cases h; exact hu
            | cons o ops' ih =>
              intro i e e2 us us2 h hu
              unfold regD at h
              split at h
              · obtain ⟨r, hr, h⟩ := Option.bind_eq_some_iff.1 h
                split at h
                · rename_i hcond
                  refine ih _ _ _ _ _ h fun q hq y hy ey => ?_
                  rcases List.mem_cons.1 hq with rfl | hq
                  · simp only [Bool.or_eq_true, Bool.and_eq_true] at hcond
                    rcases hcond with hcond | ⟨_, hcond⟩
                    · have := List.all_eq_true.1 hcond y hy
                      rw [ey] at this
                      exact .inl (under_tail this)
                    · have := List.all_eq_true.1 hcond y hy
                      simp only [Bool.or_eq_true] at this
                      rcases this with this | this
                      · rw [ey] at this; exact .inl (under_tail this)
                      · rw [ey] at this
                        obtain ⟨b', hb'⟩ := Option.isSome_iff_exists.1 this
                        cases hl2 : look (sel o.pre us) m with
                        | none => rw [app_none hl2] at hb'; exact .inr ⟨b', hb'⟩
                        | some ob =>
                          obtain ⟨q', hq', h4⟩ := mem_sel (look_mem hl2)
                          exact hu q' hq' _ h4 rfl
                  · exact hu q hq y hy ey
                · cases h
              · exact ih _ _ _ _ _ h hu
          cases hl2 : look (allU us2) m with
          | none => exact hl hl2
          | some ob =>
            rw [← hsel] at hl2
            obtain ⟨q, hq, h3⟩ := mem_sel (look_mem hl2)
            rcases key os 0 _ _ _ _ g1 (fun q hq => by cases hq) q hq _ h3 rfl with h4 | ⟨b', h4⟩
            · rw [h1] at h4; cases h4
            · rw [h2] at h4; cases h4
  | seq a b iha ihb =>
    intro hR p s r h hW ρ I st hS hN
    simp only [C.okR, Bool.and_eq_true] at hR
    unfold fden at h
    obtain ⟨q, hq, h1⟩ := Option.bind_eq_some_iff.1 h
    obtain ⟨st1, ρ1, I1, g1, g2, g3⟩ := iha hR.1 (0 :: p) s q hq (fun m hm => hW m (under_tail hm)) ρ I st hS (fun m hm => hN m (under_tail hm))
    unfold den
    rw [g1, Option.bind_some]
    cases hx : q.1 with
    | norm =>
      rw [hx] at h1
      simp only at h1 ⊢
      obtain ⟨st2, ρ2, I2, k1, k2, k3⟩ := ihb hR.2 (1 :: p) q.2 r h1 (fun m hm => hW m (under_tail hm)) ρ1 I1 st1 g2 (fun m hm => by
        refine g3 m ?_ (hN m (under_tail hm))
        cases hc : under (0 :: p) m
        · rfl
        · exact absurd (under_two hm hc) (by omega))
      exact ⟨st2, ρ2, I2, k1, k2, (g3.up (under_cons 0 p)).trans (k3.up (under_cons 1 p))⟩
    | exit id =>
      rw [hx] at h1
      cases h1
      exact ⟨st1, ρ1, I1, by simp [hx], g2, g3.up (under_cons 0 p)⟩
    | ret =>
      rw [hx] at h1
      cases h1
      exact ⟨st1, ρ1, I1, by simp [hx], g2, g3.up (under_cons 0 p)⟩
  | cond x a b iha ihb =>
    intro hR p s r h hW ρ I st hS hN
    simp only [C.okR, Bool.and_eq_true] at hR
    unfold fden at h
    split at h
    · rename_i t ht
      have hx := VF.fv hS.env x
      rw [ht] at hx
      unfold den
      rw [bool_f hx]
      simp only
      split at h
      · rename_i ht2
        rw [if_pos ht2]
        obtain ⟨st2, ρ2, I2, k1, k2, k3⟩ := iha hR.1 (0 :: p) s r h (fun m hm => hW m (under_tail hm)) ρ I st hS (fun m hm => hN m (under_tail hm))
        exact ⟨st2, ρ2, I2, k1, k2, k3.up (under_cons 0 p)⟩
      · rename_i ht2
        rw [if_neg ht2]
        obtain ⟨st2, ρ2, I2, k1, k2, k3⟩ := ihb hR.2 (1 :: p) s r h (fun m hm => hW m (under_tail hm)) ρ I st hS (fun m hm => hN m (under_tail hm))
        exact ⟨st2, ρ2, I2, k1, k2, k3.up (under_cons 1 p)⟩
    · cases h
  | blk id a iha =>
    intro hR p s r h hW ρ I st hS hN
    unfold fden at h
    obtain ⟨q, hq, hr⟩ := Option.map_eq_some_iff.1 h
    obtain ⟨st1, ρ1, I1, g1, g2, g3⟩ := iha hR (0 :: p) s q hq (fun m hm => hW m (under_tail hm)) ρ I st hS (fun m hm => hN m (under_tail hm))
    unfold den
    rw [g1, Option.map_some]
    simp only
    split at hr
    · rename_i he
      subst hr
      rw [if_pos he]
      exact ⟨st1, ρ1, I1, rfl, g2, g3.up (under_cons 0 p)⟩
    · rename_i he
      subst hr
      rw [if_neg he]
      exact ⟨st1, ρ1, I1, rfl, g2, g3.up (under_cons 0 p)⟩
  | loop a iha =>
    intro hR p s r h hW ρ I st hS hN
    unfold fden at h
    unfold den
    have key : ∀ (m j : Nat) (s : FSt) (r : Ex × FSt), fitN m (fden fcall sg (fitN n) a) s = some r → ∀ (ρ : Rh) (I : Im) (st : St), SR W ρ0 I0 ρ I H0 s st → (∀ k, j ≤ k → ∀ x, under (k :: p) x = true → app H0 st.u x = none) →
        ∃ st' ρ' I', itN m (fun j s => den call (itN n) H0 a (j :: p) s) j st = some (r.1, st') ∧ SR W ρ0 I0 ρ' I' H0 r.2 st' ∧ Gr p (app H0 st.u) (app H0 st'.u) := by
      intro m
      induction m with
      | zero => intro j s r h; cases h
      | succ m ih =>
        intro j s r h ρ I st hS hN
        unfold fitN at h
        obtain ⟨q, hq, h1⟩ := Option.bind_eq_some_iff.1 h
        obtain ⟨st1, ρ1, I1, g1, g2, g3⟩ := iha hR (j :: p) s q hq (fun m hm => hW m (under_tail hm)) ρ I st hS (hN j (Nat.le_refl _))
        unfold itN
        simp only [g1, Option.bind_some]
        cases hx : q.1 with
        | norm =>
          rw [hx] at h1
          simp only at h1 ⊢
          obtain ⟨st2, ρ2, I2, k1, k2, k3⟩ := ih (j + 1) q.2 r h1 ρ1 I1 st1 g2 (fun k hk x hx2 => by
            refine g3 x ?_ (hN k (by omega) x hx2)
            cases hc : under (j :: p) x
            · rfl
            · exact absurd (under_two hx2 hc) (by omega))
          exact ⟨st2, ρ2, I2, k1, k2, (g3.up (under_cons j p)).trans k3⟩
        | exit id =>
          rw [hx] at h1
          cases h1
          exact ⟨st1, ρ1, I1, by simp [hx], g2, g3.up (under_cons j p)⟩
        | ret =>
          rw [hx] at h1
          cases h1
          exact ⟨st1, ρ1, I1, by simp [hx], g2, g3.up (under_cons j p)⟩
    exact key n 0 s r h ρ I st hS (fun k _ x hx => hN x (under_tail hx))
end
end Go.Proofs.YtalnnbokmpppjaaAb
