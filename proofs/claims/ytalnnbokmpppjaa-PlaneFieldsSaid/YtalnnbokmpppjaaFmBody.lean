/- A whole call of the functional machine. -/
import Derived.Test.YtalnnbokmpppjaaFmSound
namespace Go.Proofs.YtalnnbokmpppjaaAb
open Go
set_option linter.unusedVariables false
set_option linter.unusedSimpArgs false
theorem LR.length {R : FV → V → List Lc → Prop} {l : List FV} {l' : List V} {ws : List Lc} (h : LR R l l' ws) : l.length = l'.length := by
  induction h with
  | nil => rfl
  | cons _ _ ih => simp [ih]
/-! ### What is handed in -/
def Inm (i j : Nat) (u : FUpd) : Prop := ∀ x ∈ u, ∃ a k, i ≤ a ∧ a < j ∧ x.1 = a + step * k
section
variable {I : Im} {H : Heap}
theorem innAll_ok {l : List FV} {l' : List V} {ls : List Lc} (h : LR (R2 [] I H) l l' ls) : ∀ {i : Nat} {a}, innAll i l = some a → i + l.length ≤ 4096 →
    NewU I H 0 a.2 ls ∧ (a.2.map (·.1)).Nodup ∧ Inm i (i + l.length) a.2 ∧ ∀ ρ, AtU ρ 0 a.2 ls → VFL ρ I a.1 l' := by
  induction h with
  | nil => intro i a ha _; cases ha; exact ⟨PW.nil, List.nodup_nil, (fun x hx => by cases hx), fun ρ _ => PW.nil⟩
  | @cons v v' l l' ws ws' h _ ih =>
    intro i a ha hl
    simp only [innAll] at ha
    obtain ⟨q, hq, ha⟩ := Option.bind_eq_some_iff.1 ha
    obtain ⟨s, hs, rfl⟩ := Option.map_eq_some_iff.1 ha
    simp only [List.length_cons] at hl
    obtain ⟨a1, a2, a3, a4⟩ := th2_ok h hq
    obtain ⟨b1, b2, b3, b4⟩ := ih hs (by omega)
    refine ⟨a1.append b1, ?_, fun x hx => ?_, fun ρ h1 => ?_⟩
    · rw [List.map_append, List.nodup_append]
      refine ⟨a3.nodup, b2, fun x hx y hy e => ?_⟩
      obtain ⟨x', hx', rfl⟩ := List.mem_map.1 hx
      obtain ⟨y', hy', rfl⟩ := List.mem_map.1 hy
      obtain ⟨j, hj⟩ := List.getElem?_of_mem hx'
      have e1 := a3 j x' hj
      obtain ⟨b, k, e2, e3, e4⟩ := b3 y' hy'
      unfold step at e1 e4
      omega
    · rcases List.mem_append.1 hx with hx | hx
      · obtain ⟨j, hj⟩ := List.getElem?_of_mem hx
        exact ⟨i, 0 + j, Nat.le_refl _, by simp, a3 j x hj⟩
      · obtain ⟨b, k, e2, e3, e4⟩ := b3 x hx
        exact ⟨b, k, by omega, by simp only [List.length_cons]; omega, e4⟩
    · obtain ⟨c1, c2⟩ := AtU.split h1 a1.1
      exact PW.cons (a4 ρ c1 (fun k x lc e => by simp at e) rfl) (b4 ρ c2)
end
/-! ### What is handed back -/
structure Fw (W : Nm → Prop) (ρ : Rh) (I : Im) (L : FHeap) (I' : Im) (L' : FHeap) : Prop where
  ext : ExI I I'
  live : ∀ d fb, L' d = some fb → ∃ fb0, L d = some fb0 ∧ fb0.g = fb.g
  new : ∀ m b, I' m = some b → I m = none → W m ∧ ∃ d fb lc, L d = some fb ∧ ρ d fb.g = some lc ∧ lc.n = m
def Gone (ρ : Rh) (I : Im) (L : FHeap) (x : Nm) : Prop := I x = none ∧ ∀ d fb lc, L d = some fb → ρ d fb.g = some lc → lc.n ≠ x
section
variable {W : Nm → Prop} {ρ : Rh} {I I' I2 : Im} {L L' L2 : FHeap} {H : Heap} {n : Nat} {ps : List Nat} {ls : List Lc}
theorem Fw.refl : Fw W ρ I L I L := ⟨ExI.refl _, fun d fb h => ⟨fb, h, rfl⟩, fun m b h1 h2 => by rw [h2] at h1; cases h1⟩
theorem Fw.trans (h : Fw W ρ I L I' L') (k : Fw W ρ I' L' I2 L2) : Fw W ρ I L I2 L2 := by
  refine ⟨h.ext.trans k.ext, fun d fb e => ?_, fun m b e1 e2 => ?_⟩
  · obtain ⟨f1, g1, g2⟩ := k.live d fb e
    obtain ⟨f2, g3, g4⟩ := h.live d f1 g1
    exact ⟨f2, g3, g4.trans g2⟩
  · cases hc : I' m with
    | some c => exact h.new m c hc e2
    | none =>
      obtain ⟨h1, d, fb, lc, g1, g2, g3⟩ := k.new m b e1 hc
      obtain ⟨f2, g4, g5⟩ := h.live d fb g1
      exact ⟨h1, d, f2, lc, g4, by rw [g5]; exact g2, g3⟩
theorem Gone.fw {x : Nm} (h : Gone ρ I L x) (k : Fw W ρ I L I' L') : Gone ρ I' L' x := by
  refine ⟨?_, fun d fb lc e1 e2 => ?_⟩
  · cases hc : I' x with
    | none => rfl
    | some c =>
      obtain ⟨_, d, fb, lc, g1, g2, g3⟩ := k.new x c hc h.1
      exact absurd g3 (h.2 d fb lc g1 g2)
  · obtain ⟨f2, g4, g5⟩ := k.live d fb e1
    exact h.2 d f2 lc g4 (by rw [g5]; exact e2)
theorem Fw.freeze (h : Rl W ρ I L H n) (vs : List Nat) : Fw W ρ I L (addI ρ L H I vs) (fapp L (Go.Proofs.YtalnnbokmpppjaaAb.freeze L vs)) := by
  refine ⟨addI_ext _ _ _ _ _, fun d fb e => freeze_live e, fun m b e1 e2 => ?_⟩
  obtain ⟨d, g, fr, tr, ik, esz, c, lc, p1, p2, p3, p4⟩ := addI_new e1 e2
  refine ⟨?_, d, _, lc, p2, p3, p4⟩
  cases fr with
  | false => rw [← p4]; exact (h.wr d _ lc p2 rfl p3).2
  | true =>
    obtain ⟨lc', b', k1, k2, _, _, _, _, _, _, q7, _⟩ := h.blk _ _ p2
    rw [show FB.g (.row g true tr ik esz c) = g from rfl, p3] at k1; cases k1
    have := q7 rfl
    rw [p4, e2] at this; cases this
theorem Fw.drop (d : Nat) : Fw W ρ I L I (drop1 L d) := ⟨ExI.refl _, fun x fb e => ⟨fb, by unfold drop1 at e; split at e; cases e; exact e, rfl⟩, fun m b h1 h2 => by rw [h2] at h1; cases h1⟩
theorem Rl.drop1 (h : Rl W ρ I L H n) (d : Nat) : Rl W ρ I (Go.Proofs.YtalnnbokmpppjaaAb.drop1 L d) H n := h.le (fun x fb e => by unfold Go.Proofs.YtalnnbokmpppjaaAb.drop1 at e; split at e; cases e; exact e) (Nat.le_refl _)
theorem Gone.drop (h : Rl W ρ I L H n) {d : Nat} {fb : FB} {lc : Lc} (hL : L d = some fb) (hf : fb.fz = false) (hρ : ρ d fb.g = some lc) : Gone ρ I (drop1 L d) lc.n := by
  refine ⟨(h.wr d fb lc hL hf hρ).1, fun d' fb' lc' e1 e2 => ?_⟩
  unfold Go.Proofs.YtalnnbokmpppjaaAb.drop1 at e1
  split at e1
  · cases e1
  · rename_i hne
    exact h.inj _ _ _ _ _ _ e1 hL hne e2 hρ
/-- where the blocks handed in lie -/
def Pl (ρ : Rh) (ps : List Nat) (ls : List Lc) : Prop := ∀ (k : Nat) d, ps[k]? = some d → ∃ lc, ls[k]? = some lc ∧ ρ d 0 = some lc
theorem rt_fz (h : Rl W ρ I L H n) {v : FV} {v' : V} (hv : VF ρ I v v') {r} (hr : ((fz L fuel v).map fun q => (q.1, fapp L (freeze L q.2))) = some r) :
    ∃ I' ws, Rl W ρ I' r.2 H n ∧ R1 ls I' H r.1 v' ws ∧ Fw W ρ I L I' r.2 ∧ (ws.map (·.n)).Nodup ∧ ∀ lc ∈ ws, W lc.n ∧ Gone ρ I' r.2 lc.n ∧ ∃ d fb, L d = some fb ∧ ρ d fb.g = some lc := by
  obtain ⟨q, hq, rfl⟩ := Option.map_eq_some_iff.1 hr
  exact ⟨_, [], h.freeze q.2, .tree ((fz_ok h fuel).1 _ _ _ hq _ hv), Fw.freeze h q.2, List.nodup_nil, fun lc hlc => by cases hlc⟩
theorem rt1_ok (h : Rl W ρ I L H n) (hp : Pl ρ ps ls) {v : FV} {v' : V} (hv : VF ρ I v v') {r} (hr : rt1 ps L v = some r) :
    ∃ I' ws, Rl W ρ I' r.2 H n ∧ R1 ls I' H r.1 v' ws ∧ Fw W ρ I L I' r.2 ∧ (ws.map (·.n)).Nodup ∧ ∀ lc ∈ ws, W lc.n ∧ Gone ρ I' r.2 lc.n ∧ ∃ d fb, L d = some fb ∧ ρ d fb.g = some lc := by
  unfold rt1 at hr
  split at hr
  · rename_i d o m
    obtain ⟨k, hk, hr⟩ := Option.bind_eq_some_iff.1 hr
    obtain ⟨lc, h1, h2⟩ := hp k d (posOf_ok hk)
    split at hr <;> cases hr
    exact ⟨I, [], h, .aref h1 (hv.to1 h2), Fw.refl, List.nodup_nil, fun lc hlc => by cases hlc⟩
  · rename_i d o
    obtain ⟨k, hk, hr⟩ := Option.bind_eq_some_iff.1 hr
    obtain ⟨lc, h1, h2⟩ := hp k d (posOf_ok hk)
    split at hr <;> cases hr
    obtain ⟨lc', h3, rfl⟩ := ptr_f hv
    rw [h2] at h3; cases h3
    exact ⟨I, [], h, .aptr h1, Fw.refl, List.nodup_nil, fun lc hlc => by cases hlc⟩
  · rename_i d g o m
    split at hr
    · rename_i g' ik esz c hL
      split at hr
      · rename_i e
        cases hr
        obtain ⟨rfl, rfl, e1⟩ := e
        obtain ⟨lc, b, k1, k2, k3⟩ := h.blk d _ hL
        exact ⟨I, [lc], h.drop1 d, .own ⟨b, k2, k3⟩ (hv.to1 k1), Fw.drop d, by simp, fun x hx => by
          simp only [List.mem_singleton] at hx
          subst hx
          exact ⟨(h.wr d _ x hL rfl k1).2, Gone.drop h hL rfl k1, d, _, hL, k1⟩⟩
      · exact rt_fz h hv hr
    · exact rt_fz h hv hr
  · rename_i d g
    split at hr
    · rename_i g' tr ik esz c hL
      split at hr
      · rename_i e
        subst e
        obtain ⟨⟨c', vs⟩, hq, hr⟩ := Option.bind_eq_some_iff.1 hr
        simp only at hr
        split at hr <;> cases hr
        rename_i hd
        obtain ⟨lc, b, k1, k2, q1, q2, q3, q4, q5, q6, q7, q8⟩ := h.blk d _ hL
        obtain ⟨lc', h3, rfl⟩ := ptr_f hv
        rw [show FB.g (.row (g + 1) false tr ik esz c) = g + 1 from rfl, h3] at k1; cases k1
        have hpw := q6.pw
        have hc := trees_ok h hq (m := (b.cells.drop lc.base).take c.length) (by
          cases tr
          · cases hl : c.all FV.leaf
            · exact hpw
            · exact hpw.leaf hl
          · exact hpw)
        have hlen : c'.length = c.length := hc.1.trans hpw.1.symm
        have hf := h.freeze vs
        have hlive : fapp L (freeze L vs) d = some (.row (g + 1) false tr ik esz c) := by rw [freeze_look, hL]; simp [hd]
        refine ⟨_, [lc], hf.drop1 d, .optr ⟨b, k2, by rw [hlen]; exact q1, q2, q3, q4, q5, CR.of (by rw [hlen]; exact q6.1) (by rw [hlen]; exact hc), (fun e => by cases e), q8⟩, (Fw.freeze h vs).trans (Fw.drop d), by simp, fun x hx => ?_⟩
        simp only [List.mem_singleton] at hx
        subst hx
        exact ⟨(hf.wr d _ x hlive rfl h3).2, Gone.drop hf hlive rfl h3, d, _, hL, h3⟩
      · cases hr
    · cases hr
  · cases hr
    exact ⟨I, [], h, .tree (hv.leaf rfl), Fw.refl, List.nodup_nil, fun lc hlc => by cases hlc⟩
  · exact rt_fz h hv hr
theorem Rt.join {ws ws' : List Lc} (f1 : Fw W ρ I L I' L') (f2 : Fw W ρ I' L' I2 L2) (n1 : (ws.map (·.n)).Nodup) (n2 : (ws'.map (·.n)).Nodup) (g1 : ∀ lc ∈ ws, W lc.n ∧ Gone ρ I' L' lc.n ∧ ∃ d fb, L d = some fb ∧ ρ d fb.g = some lc) (g2 : ∀ lc ∈ ws', W lc.n ∧ Gone ρ I2 L2 lc.n ∧ ∃ d fb, L' d = some fb ∧ ρ d fb.g = some lc) :
    ((ws ++ ws').map (·.n)).Nodup ∧ ∀ lc ∈ ws ++ ws', W lc.n ∧ Gone ρ I2 L2 lc.n ∧ ∃ d fb, L d = some fb ∧ ρ d fb.g = some lc := by
  refine ⟨?_, fun lc hlc => ?_⟩
  · rw [List.map_append, List.nodup_append]
    refine ⟨n1, n2, fun x hx y hy e => ?_⟩
    obtain ⟨a, ha, rfl⟩ := List.mem_map.1 hx
    obtain ⟨b, hb, rfl⟩ := List.mem_map.1 hy
    obtain ⟨_, _, d, fb, h1, h2⟩ := g2 b hb
    exact (g1 a ha).2.1.2 d fb b h1 h2 e.symm
  · rcases List.mem_append.1 hlc with hlc | hlc
    · obtain ⟨h1, h2, h3⟩ := g1 lc hlc
      exact ⟨h1, h2.fw f2, h3⟩
    · obtain ⟨h1, h2, d, fb, h3, h4⟩ := g2 lc hlc
      obtain ⟨f, h5, h6⟩ := f1.live d fb h3
      exact ⟨h1, h2, d, f, h5, by rw [h6]; exact h4⟩
theorem rt1L_ok (hp : Pl ρ ps ls) : ∀ {l : List FV} {l' : List V} {I : Im} {L : FHeap}, Rl W ρ I L H n → VFL ρ I l l' → ∀ {r}, rt1L ps L l = some r →
    ∃ I' ws, Rl W ρ I' r.2 H n ∧ LR (R1 ls I' H) r.1 l' ws ∧ Fw W ρ I L I' r.2 ∧ (ws.map (·.n)).Nodup ∧ ∀ lc ∈ ws, W lc.n ∧ Gone ρ I' r.2 lc.n ∧ ∃ d fb, L d = some fb ∧ ρ d fb.g = some lc
  | [], l', I, L, h, hv, r, hr => by cases hr; rw [PW.nil' hv]; exact ⟨I, [], h, .nil, Fw.refl, List.nodup_nil, fun lc hlc => by cases hlc⟩
  | v :: l, l', I, L, h, hv, r, hr => by
    simp only [rt1L] at hr
    obtain ⟨q, hq, hr⟩ := Option.bind_eq_some_iff.1 hr
    obtain ⟨s, hs, rfl⟩ := Option.map_eq_some_iff.1 hr
    obtain ⟨v', m, rfl, h1, h2⟩ := hv.head
    obtain ⟨I1, ws1, a1, a2, a3, a4, a5⟩ := rt1_ok h hp h1 hq
    obtain ⟨I3, ws3, b1, b2, b3, b4, b5⟩ := rt1L_ok hp a1 (h2.ext (ExR.refl _) a3.ext) hs
    obtain ⟨c1, c2⟩ := Rt.join a3 b3 a4 b4 a5 b5
    exact ⟨I3, _, b1, .cons (a2.ext b3.ext) b2, a3.trans b3, c1, c2⟩
theorem rt2_ok (h : Rl W ρ I L H n) (hp : Pl ρ ps ls) {v : FV} {v' : V} (hv : VF ρ I v v') {r} (hr : rt2 ps L v = some r) :
    ∃ I' ws, Rl W ρ I' r.2 H n ∧ R2 ls I' H r.1 v' ws ∧ Fw W ρ I L I' r.2 ∧ (ws.map (·.n)).Nodup ∧ ∀ lc ∈ ws, W lc.n ∧ Gone ρ I' r.2 lc.n ∧ ∃ d fb, L d = some fb ∧ ρ d fb.g = some lc := by
  unfold rt2 at hr
  split at hr
  · obtain ⟨q, hq, rfl⟩ := Option.map_eq_some_iff.1 hr
    obtain ⟨m, rfl, hm⟩ := agg_f hv
    obtain ⟨I1, ws1, a1, a2, a3⟩ := rt1L_ok hp h hm hq
    exact ⟨I1, ws1, a1, .agg a2, a3⟩
  · obtain ⟨I1, ws1, a1, a2, a3⟩ := rt1_ok h hp hv hr
    exact ⟨I1, ws1, a1, .one a2, a3⟩
theorem rt2L_ok (hp : Pl ρ ps ls) : ∀ {l : List FV} {l' : List V} {I : Im} {L : FHeap}, Rl W ρ I L H n → VFL ρ I l l' → ∀ {r}, rt2L ps L l = some r →
    ∃ I' ws, Rl W ρ I' r.2 H n ∧ LR (R2 ls I' H) r.1 l' ws ∧ Fw W ρ I L I' r.2 ∧ (ws.map (·.n)).Nodup ∧ ∀ lc ∈ ws, W lc.n ∧ Gone ρ I' r.2 lc.n ∧ ∃ d fb, L d = some fb ∧ ρ d fb.g = some lc
  | [], l', I, L, h, hv, r, hr => by cases hr; rw [PW.nil' hv]; exact ⟨I, [], h, .nil, Fw.refl, List.nodup_nil, fun lc hlc => by cases hlc⟩
  | v :: l, l', I, L, h, hv, r, hr => by
    simp only [rt2L] at hr
    obtain ⟨q, hq, hr⟩ := Option.bind_eq_some_iff.1 hr
    obtain ⟨s, hs, rfl⟩ := Option.map_eq_some_iff.1 hr
    obtain ⟨v', m, rfl, h1, h2⟩ := hv.head
    obtain ⟨I1, ws1, a1, a2, a3, a4, a5⟩ := rt2_ok h hp h1 hq
    obtain ⟨I3, ws3, b1, b2, b3, b4, b5⟩ := rt2L_ok hp a1 (h2.ext (ExR.refl _) a3.ext) hs
    obtain ⟨c1, c2⟩ := Rt.join a3 b3 a4 b4 a5 b5
    exact ⟨I3, _, b1, .cons (a2.ext b3.ext) b2, a3.trans b3, c1, c2⟩
/-- what has become of what was handed in -/
theorem outs_ok (h : Rl W ρ I L H n) : ∀ {ds : List Nat} {lds : List Lc}, PW (fun d lc => ρ d 0 = some lc) ds lds → (∀ d ∈ ds, d ∈ ps) → ∀ {os}, outs L ps ds = some os →
    ∃ vs, (∀ d ∈ vs, d ∉ ps) ∧ os.length = ds.length ∧ ∀ (k : Nat) d lc o, ds[k]? = some d → lds[k]? = some lc → os[k]? = some o → (∀ c, o = some c → (∃ fb, L d = some fb ∧ fb.g = 0 ∧ fb.fz = false) ∧ ∃ b, H lc.n = some b ∧ BRel rh0 (addI ρ L H I vs) lc (.row 0 false true lc.ik lc.esz c) b) ∧ (o = none → ∀ fr tr ik esz c, L d ≠ some (.row 0 fr tr ik esz c))
  | [], lds, _, _, os, h => by cases h; exact ⟨[], (fun d hd => by cases hd), rfl, fun k d lc o e => by simp at e⟩
  | d :: ds, lds, hp, hps, os, ho => by
    obtain ⟨lc, lds', rfl, h1, h2⟩ := hp.head
    unfold outs at ho
    have tail : ∀ os', outs L ps ds = some os' → _ := fun os' ho' => outs_ok h h2 (fun d hd => hps d (List.mem_cons_of_mem _ hd)) ho'
    split at ho
    · rename_i tr ik esz c hL
      obtain ⟨⟨c', vs0⟩, hq, ho⟩ := Option.bind_eq_some_iff.1 ho
      simp only at ho
      split at ho
      · cases ho
      · rename_i hany
        obtain ⟨os', ho', rfl⟩ := Option.map_eq_some_iff.1 ho
        obtain ⟨vs, g1, g2, g3⟩ := tail os' ho'
        obtain ⟨lc', b, k1, k2, q1, q2, q3, q4, q5, q6, q7, q8⟩ := h.blk d _ hL
        rw [show FB.g (.row 0 false tr ik esz c) = 0 from rfl, h1] at k1; cases k1
        have hpw := q6.pw
        have hc := trees_ok h hq (m := (b.cells.drop lc.base).take c.length) (by
          cases tr
          · cases hl : c.all FV.leaf
            · exact hpw
            · exact hpw.leaf hl
          · exact hpw)
        have hlen : c'.length = c.length := hc.1.trans hpw.1.symm
        refine ⟨vs0 ++ vs, fun x hx => ?_, by simp [g2], fun k d' lc' o e1 e2 e3 => ?_⟩
        · rcases List.mem_append.1 hx with hx | hx
          · intro hxp
            exact hany (List.any_eq_true.2 ⟨x, hx, by simpa using hxp⟩)
          · exact g1 x hx
        · cases k with
          | zero =>
            simp only [List.getElem?_cons_zero, Option.some.injEq] at e1 e2 e3
            subst e1 e2 e3
            refine ⟨fun c2 ec => ?_, fun e => by cases e⟩
            cases ec
            refine ⟨⟨_, hL, rfl, rfl⟩, b, k2, by rw [hlen]; exact q1, rfl, q3, by rw [q4]; exact q2.symm, by rw [q8]; exact q5, CR.of (by rw [hlen]; exact q6.1) (by rw [hlen]; exact hc.ext (ExR.refl _) (addI_sub fun d hd => List.mem_append_left _ hd)), (fun e => by cases e), rfl⟩
          | succ k =>
            simp only [List.getElem?_cons_succ] at e1 e2 e3
            obtain ⟨f1, f2⟩ := g3 k d' lc' o e1 e2 e3
            refine ⟨fun c2 ec => ?_, f2⟩
            obtain ⟨f3, b', f4, f5⟩ := f1 c2 ec
            exact ⟨f3, b', f4, f5.ext (ExR.refl _) (addI_sub fun d hd => List.mem_append_right _ hd)⟩
    · cases ho
    · rename_i hn1 hn2
      obtain ⟨os', ho', rfl⟩ := Option.map_eq_some_iff.1 ho
      obtain ⟨vs, g1, g2, g3⟩ := tail os' ho'
      refine ⟨vs, g1, by simp [g2], fun k d' lc' o e1 e2 e3 => ?_⟩
      cases k with
      | zero =>
        simp only [List.getElem?_cons_zero, Option.some.injEq] at e1 e2 e3
        subst e1 e2 e3
        refine ⟨(fun c ec => by cases ec), fun _ fr tr ik esz c e => ?_⟩
        cases fr
        · exact hn1 _ _ _ _ e
        · exact hn2 _ _ _ _ e
      | succ k => exact g3 k d' lc' o (by simpa using e1) (by simpa using e2) (by simpa using e3)
theorem fresV_ok (h : Rl W ρ I L H n) {e : FEnv} {e' : Env} (he : EnvF ρ I e e') {r : R} {v : FV} (hv : fresV e L r = some v) : ∃ v', resV e' H r = some v' ∧ VF ρ I v v' := by
  cases r with
  | tmp t => cases hv; exact ⟨_, rfl, he t⟩
  | cell t g =>
    obtain ⟨nm, o, b, v', k1, k2, k3, k4⟩ := fLoad_ok h (he t) hv
    exact ⟨v', by simp only [resV, k1, k2, Option.bind_some, k3], k4⟩
theorem fresAll_ok (h : Rl W ρ I L H n) {e : FEnv} {e' : Env} (he : EnvF ρ I e e') : ∀ {rs : List R} {vs : List FV}, fresAll e L rs = some vs → ∃ vs', resAll e' H rs = some vs' ∧ VFL ρ I vs vs'
  | [], vs, h => by cases h; exact ⟨[], rfl, PW.nil⟩
  | r :: rs, vs, hv => by
    simp only [fresAll] at hv
    obtain ⟨v, h1, hv⟩ := Option.bind_eq_some_iff.1 hv
    obtain ⟨ws, h2, rfl⟩ := Option.map_eq_some_iff.1 hv
    obtain ⟨v', k1, k2⟩ := fresV_ok h he h1
    obtain ⟨vs', k3, k4⟩ := fresAll_ok h he h2
    exact ⟨v' :: vs', by simp only [resAll, k1, Option.bind_some, k3, Option.map_some], PW.cons k2 k4⟩
end
theorem R3.fone {ls : List Lc} {I : Im} {H : Heap} {l : List FV} {l' : List V} {ws : List Lc} (h : LR (R2 ls I H) l l' ws) : R3 ls I H (fone l) (one l') ws := by
  cases h with
  | nil => exact .tup .nil
  | cons a b =>
    cases b with
    | nil => rw [List.append_nil]; exact .two a
    | cons c d => exact .tup (.cons a (.cons c d))
/-- **What the functional machine answers, the abstract machine answers.** -/
theorem fgood {ir : Nat → Option F} {sg : Sg} (hir : ∀ f F, ir f = some F → F.body.okR = true) : ∀ k, FGood (callN ir k) (fcallN ir sg k)
  | 0 => fun f fargs fres fouts h => by cases h
  | k + 1 => fun f fargs fres fouts h I H args ls p hA hN hI hnd hIn => by
    have ih := fgood hir (sg := sg) k
    unfold fcallN at h
    obtain ⟨fn, hfn, h⟩ := Option.bind_eq_some_iff.1 h
    unfold fbody at h
    split at h
    case isFalse => cases h
    rename_i hlen
    obtain ⟨a, ha, h⟩ := Option.bind_eq_some_iff.1 h
    obtain ⟨r, hr, h⟩ := Option.bind_eq_some_iff.1 h
    have hal := hA.length
    obtain ⟨a1, a2, a3, a4⟩ := innAll_ok hA ha (by omega)
    let ps := a.2.map (·.1)
    let W : Nm → Prop := fun m => under p m = true ∨ ∃ lc ∈ ls, lc.n = m
    let ρ0 : Rh := fun d g => if g = 0 then (posOf ps d).bind (ls[·]?) else none
    have hρ0 : ∀ (j : Nat) x lc, a.2[j]? = some x → ls[j]? = some lc → ρ0 x.1 0 = some lc := fun j x lc e1 e2 => by
      show (if (0 : Nat) = 0 then _ else _) = _
      rw [if_pos rfl, posOf_nodup a2 (by rw [List.getElem?_map, e1]; rfl)]
      exact e2
    have hAt : AtU ρ0 0 a.2 ls := ⟨a1.1, fun j x lc e1 e2 => hρ0 j x lc e1 e2⟩
    have hgen : ∀ d g lc, ρ0 d g = some lc → g < 1 := fun d g lc e => by
      have e : (if g = 0 then _ else none) = some lc := e
      split at e
      · omega
      · cases e
    have hbase : Rl W ρ0 I (fun _ => none) H 1 := ⟨hgen, (fun d fb e => by cases e), (fun d d' fb fb' lc lc' e => by cases e), hI, (fun d fb lc e => by cases e)⟩
    have ent : ∀ d fb, (d, some fb) ∈ a.2 → ∃ (j : Nat) (lc : Lc), a.2[j]? = some (d, some fb) ∧ ls[j]? = some lc ∧ ρ0 d fb.g = some lc ∧ fb.fz = false ∧ ∃ b, H lc.n = some b ∧ BRel ρ0 I lc fb b := fun d fb hm => by
      obtain ⟨j, hj⟩ := List.getElem?_of_mem hm
      obtain ⟨lc, hl, ik, esz, c, e1, b, e2, e3⟩ := a1.get hj
      simp only [Option.some.injEq] at e1
      subst e1
      exact ⟨j, lc, hj, hl, hρ0 j _ lc hj hl, rfl, b, e2, e3.ext (ExR.zero _) (ExI.refl _)⟩
    have hstart : Rl W ρ0 I (fapp (fun _ => none) a.2) H 1 := by
      refine hbase.ents (fun d fb hm => ?_) (fun d fb d' fb' lc lc' m1 m2 hne e1 e2 => ?_) (fun d fb d' fb' lc lc' m1 m2 => by cases m2)
      · obtain ⟨j, lc, g1, g2, g3, g4, b, g5, g6⟩ := ent d fb hm
        have hlc := List.mem_of_getElem? g2
        exact ⟨lc, b, g3, g4, g5, g6, hIn lc hlc, .inr ⟨lc, hlc, rfl⟩⟩
      · obtain ⟨j, l1, g1, g2, g3, _⟩ := ent d fb m1
        obtain ⟨j', l2, g1', g2', g3', _⟩ := ent d' fb' m2
        rw [g3] at e1; cases e1
        rw [g3'] at e2; cases e2
        intro e
        have : j = j' := nodup_get hnd (a := lc.n) (by rw [List.getElem?_map, g2]; rfl) (by rw [List.getElem?_map, g2', e]; rfl)
        subst this
        rw [g1] at g1'
        exact hne (by cases g1'; rfl)
    have hvals := a4 ρ0 hAt
    have hS : SR W ρ0 I ρ0 I H ⟨fun t => a.1.getD t fundef, fapp (fun _ => none) a.2, 1⟩ ⟨fun t => args.getD t undefV, []⟩ := by
      refine ⟨fun t => ?_, hstart, ExR.refl _, ExI.refl _, (fun m b e1 e2 => by rw [e2] at e1; cases e1), fun x hx => by cases hx⟩
      show VF ρ0 I (a.1.getD t fundef) (args.getD t undefV)
      simp only [List.getD_eq_getElem?_getD]
      cases hc : a.1[t]? with
      | none =>
        have : args[t]? = none := by rw [List.getElem?_eq_none_iff] at hc ⊢; rw [← hvals.1]; exact hc
        rw [this]; exact VF.undef
      | some v =>
        obtain ⟨v', h1, h2⟩ := hvals.get hc
        rw [h1]; exact h2
    obtain ⟨st', ρ1, I1, g1, g2, g3⟩ := fden_ok ih fn.body (hir f fn hfn) (0 :: p) _ r hr (fun m hm => .inl (under_tail hm)) ρ0 I _ hS (fun m hm => hN m (under_tail hm))
    -- the end
    have fin : ∀ vs, fresAll r.2.e r.2.L fn.res = some vs → fEnd ps r.2.L vs = some (fres, fouts) → ∃ v u I' ws, ((resAll st'.env (app H st'.u) fn.res).map fun l => (one l, st'.u)) = some (v, u) ∧ Back ls I H p u fres fouts v I' ws := fun vs hvs hend => by
      obtain ⟨vs', k1, k2⟩ := fresAll_ok g2.rl g2.env hvs
      unfold fEnd at hend
      obtain ⟨q, hq, hend⟩ := Option.bind_eq_some_iff.1 hend
      obtain ⟨os, hos, he⟩ := Option.map_eq_some_iff.1 hend
      obtain ⟨rfl, rfl⟩ := Prod.mk.inj he
      have hP : ∀ (j : Nat) d, ps[j]? = some d → ∃ lc, ls[j]? = some lc ∧ ρ1 d 0 = some lc := fun j d e => by
        have e' : (a.2[j]?).map (·.1) = some d := by rw [← List.getElem?_map]; exact e
        obtain ⟨x, hx, rfl⟩ := Option.map_eq_some_iff.1 e'
        obtain ⟨lc, hl, _⟩ := a1.get hx
        exact ⟨lc, hl, g2.hr _ _ _ (hρ0 j x lc hx hl)⟩
      obtain ⟨I2, ws, b1, b2, b3, b4, b5⟩ := rt2L_ok (ps := ps) (ls := ls) hP g2.rl k2 hq
      have hpl : ps.length = ls.length := by show (a.2.map _).length = _; rw [List.length_map, a1.1]
      have hpw : PW (fun d lc => ρ1 d 0 = some lc) ps ls := ⟨hpl, fun j d lc e1 e2 => by
        obtain ⟨lc', h1, h2⟩ := hP j d e1
        rw [e2] at h1; cases h1; exact h2⟩
      obtain ⟨vs3, c1, c2, c3⟩ := outs_ok (ps := ps) b1 hpw (fun d hd => hd) hos
      have hIm := addI_imm b1 (vs := vs3)
      have hexI := addI_ext ρ1 q.2 (app H st'.u) I2 vs3
      -- a block handed in that is alive
      have alive : ∀ (j : Nat) (lc : Lc) c, ls[j]? = some lc → os[j]? = some (some c) → (∃ d fb, q.2 d = some fb ∧ ρ1 d fb.g = some lc) ∧ addI ρ1 q.2 (app H st'.u) I2 vs3 lc.n = none ∧ ∃ b, app H st'.u lc.n = some b ∧ BRel rh0 (addI ρ1 q.2 (app H st'.u) I2 vs3) lc (.row 0 false true lc.ik lc.esz c) b := fun j lc c e1 e2 => by
        have hj : j < ps.length := by rw [hpl]; exact (List.getElem?_eq_some_iff.1 e1).1
        have hd : ps[j]? = some ps[j] := List.getElem?_eq_getElem hj
        obtain ⟨⟨⟨fb, f1, f2, f3⟩, b, f4, f5⟩, _⟩ := And.intro ((c3 j _ lc _ hd e1 e2).1 c rfl) trivial
        have hρ := hpw.2 j _ lc hd e1
        refine ⟨⟨_, fb, f1, by rw [f2]; exact hρ⟩, ?_, b, f4, f5⟩
        refine addI_none b1 (fun hm => c1 _ hm (List.mem_of_getElem? hd)) f1 (by rw [f2]; exact hρ) ?_
        exact (b1.wr _ _ _ f1 f3 (by rw [f2]; exact hρ)).1
      have dead : ∀ lc ∈ ls, (∀ d fb, q.2 d = some fb → ρ1 d fb.g = some lc → False) ∨ (∃ b, addI ρ1 q.2 (app H st'.u) I2 vs3 lc.n = some b) → ∃ (j : Nat) (l : Lc), ls[j]? = some l ∧ os[j]? = some none ∧ l.n = lc.n := fun lc hlc hd => by
        obtain ⟨j, hj⟩ := List.getElem?_of_mem hlc
        have hjo : j < os.length := by rw [c2, hpl]; exact (List.getElem?_eq_some_iff.1 hj).1
        have ho : os[j]? = some os[j] := List.getElem?_eq_getElem hjo
        cases hc : os[j] with
        | none => rw [hc] at ho; exact ⟨j, lc, hj, ho, rfl⟩
        | some c =>
          rw [hc] at ho
          obtain ⟨⟨d, fb, f1, f2⟩, f3, _⟩ := alive j lc c hj ho
          rcases hd with hd | ⟨b, hd⟩
          · exact (hd d fb f1 f2).elim
          · rw [f3] at hd; cases hd
      have Wdead : ∀ m, W m → ((∀ d fb lc, q.2 d = some fb → ρ1 d fb.g = some lc → lc.n ≠ m) ∨ ∃ b, addI ρ1 q.2 (app H st'.u) I2 vs3 m = some b) → under p m = true ∨ ∃ (j : Nat) (l : Lc), ls[j]? = some l ∧ os[j]? = some none ∧ l.n = m := fun m hW hd => by
        rcases hW with hW | ⟨lc, hlc, rfl⟩
        · exact .inl hW
        · right
          refine dead lc hlc (hd.imp (fun hd d fb e1 e2 => hd d fb lc e1 e2 rfl) id)
      have newW : ∀ m b, addI ρ1 q.2 (app H st'.u) I2 vs3 m = some b → I m = none → W m := fun m b e1 e2 => by
        cases h2 : I2 m with
        | none => exact ((Fw.freeze b1 vs3).new m b e1 h2).1
        | some c2 =>
          cases h1 : I1 m with
          | none => exact (b3.new m c2 h2 h1).1
          | some c1 => exact g2.new m c1 h1 e2
      refine ⟨one vs', st'.u, _, ws, by rw [k1]; rfl, ⟨fun x hx => g2.touch x hx, (g2.hi.trans b3.ext).trans hexI, hIm, fun m b e1 e2 => Wdead m (newW m b e1 e2) (.inr ⟨b, e1⟩), ?_, by rw [c2]; exact hpl, fun j lc c e1 e2 => (alive j lc c e1 e2).2, b4, fun lc hlc => ?_⟩⟩
      · exact R3.fone (b2.imp fun _ _ _ k => k.ext hexI)
      · obtain ⟨h1, h2, _⟩ := b5 lc hlc
        refine ⟨(h2.fw (Fw.freeze b1 vs3)).1, Wdead _ h1 (.inl h2.2)⟩
    have hden : den (callN ir k) (itN k) H fn.body (0 :: p) ⟨fun t => args.getD t undefV, []⟩ = some (r.1, st') := g1
    cases hx : r.1 with
    | exit id => rw [hx] at h; cases h
    | norm =>
      rw [hx] at h
      simp only at h
      obtain ⟨vs, hvs, hend⟩ := Option.bind_eq_some_iff.1 h
      obtain ⟨v, u, I', ws, f1, f2⟩ := fin vs hvs hend
      refine ⟨v, u, I', ws, ?_, f2⟩
      unfold callN
      rw [hfn, Option.bind_some]
      unfold body
      rw [if_pos (by rw [← hal]; exact hlen.1), hden, hx]
      simpa using f1
    | ret =>
      rw [hx] at h
      simp only at h
      obtain ⟨vs, hvs, hend⟩ := Option.bind_eq_some_iff.1 h
      obtain ⟨v, u, I', ws, f1, f2⟩ := fin vs hvs hend
      refine ⟨v, u, I', ws, ?_, f2⟩
      unfold callN
      rw [hfn, Option.bind_some]
      unfold body
      rw [if_pos (by rw [← hal]; exact hlen.1), hden, hx]
      simpa using f1
end Go.Proofs.YtalnnbokmpppjaaAb
