/- Trees: what is read stays; the cells of what is appended or copied. -/
import Derived.Test.YtalnnbokmpppjaaFmRel
namespace Go.Proofs.YtalnnbokmpppjaaAb
open Go
set_option linter.unusedVariables false
set_option linter.unusedSimpArgs false
open Classical in
noncomputable def addI (ρ : Rh) (L : FHeap) (H : Heap) (I : Im) (vs : List Nat) : Im := fun m =>
  match I m with
  | some b => some b
  | none => if ∃ d g fr tr ik esz c lc, d ∈ vs ∧ L d = some (.row g fr tr ik esz c) ∧ ρ d g = some lc ∧ lc.n = m then H m else none
section
variable {W : Nm → Prop} {ρ : Rh} {I : Im} {L : FHeap} {H : Heap} {n : Nat}
theorem addI_ext (ρ : Rh) (L : FHeap) (H : Heap) (I : Im) (vs : List Nat) : ExI I (addI ρ L H I vs) := fun m b h => by unfold addI; rw [h]
theorem addI_nil (ρ : Rh) (L : FHeap) (H : Heap) (I : Im) : addI ρ L H I [] = I := by
  funext m
  unfold addI
  cases I m with
  | some b => rfl
  | none => simp
theorem addI_sub {vs vs' : List Nat} (h : ∀ d ∈ vs, d ∈ vs') : ExI (addI ρ L H I vs) (addI ρ L H I vs') := fun m b k => by
  unfold addI at *
  cases hI : I m with
  | some c => rw [hI] at k; exact k
  | none =>
    rw [hI] at k
    simp only at k ⊢
    split at k
    · rename_i he
      obtain ⟨d, g, fr, tr, ik, esz, c, lc, h1, h2⟩ := he
      rw [if_pos ⟨d, g, fr, tr, ik, esz, c, lc, h d h1, h2⟩]; exact k
    · cases k
theorem addI_imm (h : Rl W ρ I L H n) {vs : List Nat} : ∀ m b, addI ρ L H I vs m = some b → H m = some b := fun m b k => by
  unfold addI at k
  cases hI : I m with
  | some c => rw [hI] at k; cases k; exact h.imm m _ hI
  | none =>
    rw [hI] at k
    simp only at k
    split at k
    · exact k
    · cases k
theorem addI_new {vs : List Nat} {m : Nm} {b : Blk} (k : addI ρ L H I vs m = some b) (hI : I m = none) : ∃ d g fr tr ik esz c lc, d ∈ vs ∧ L d = some (.row g fr tr ik esz c) ∧ ρ d g = some lc ∧ lc.n = m := by
  unfold addI at k
  rw [hI] at k
  simp only at k
  split at k
  · assumption
  · cases k
theorem addI_at (h : Rl W ρ I L H n) {vs : List Nat} {d g : Nat} {fr tr : Bool} {ik : Option IntKind} {esz : Nat} {c : List FV} {lc : Lc} {b : Blk} (hd : d ∈ vs) (hL : L d = some (.row g fr tr ik esz c)) (hρ : ρ d g = some lc) (hb : H lc.n = some b) : addI ρ L H I vs lc.n = some b := by
  unfold addI
  cases hI : I lc.n with
  | some c => have := h.imm _ _ hI; rw [hb] at this; exact this.symm
  | none =>
    simp only
    rw [if_pos ⟨d, g, fr, tr, ik, esz, c, lc, hd, hL, hρ, rfl⟩]; exact hb
theorem addI_none (h : Rl W ρ I L H n) {vs : List Nat} {d : Nat} {fb : FB} {lc : Lc} (hd : d ∉ vs) (hL : L d = some fb) (hρ : ρ d fb.g = some lc) (hI : I lc.n = none) : addI ρ L H I vs lc.n = none := by
  unfold addI
  rw [hI]
  simp only
  rw [if_neg]
  rintro ⟨d', g, fr, tr, ik, esz, c, lc', h1, h2, h3, h4⟩
  by_cases e : d' = d
  · exact hd (e ▸ h1)
  · exact h.inj d' d _ fb lc' lc h2 hL e h3 hρ h4
theorem freeze_look (L : FHeap) (d : Nat) : ∀ (vs : List Nat), fapp L (freeze L vs) d = match L d with | some (.row g fr tr ik esz c) => if d ∈ vs then some (.row g true tr ik esz c) else some (.row g fr tr ik esz c) | x => x
  | [] => by
    rw [freeze, fapp_nil]
    cases L d with
    | none => rfl
    | some fb => cases fb <;> simp
  | e :: vs => by
    have ih := freeze_look L d vs
    rw [freeze]
    cases hL : L e with
    | none =>
      simp only
      rw [ih]
      cases hd : L d with
      | none => rfl
      | some fb =>
        have hne : d ≠ e := fun x => by rw [x, hL] at hd; cases hd
        cases fb <;> simp [hne]
    | some fb =>
      cases fb with
      | iter g s pos =>
        simp only
        rw [ih]
        cases hd : L d with
        | none => rfl
        | some fb =>
          cases fb with
          | iter => rfl
          | row =>
            have hne : d ≠ e := fun x => by rw [x, hL] at hd; cases hd
            simp [hne]
      | row g fr tr ik esz c =>
        simp only
        rw [fapp_cons]
        show (if d = e then some (FB.row g true tr ik esz c) else fapp L (freeze L vs) d) = _
        by_cases x : d = e
        · subst x; rw [if_pos rfl, hL]; simp
        · rw [if_neg x, ih]
          cases hd : L d with
          | none => rfl
          | some fb => cases fb <;> simp [x]
theorem freeze_live {L : FHeap} {vs : List Nat} {d : Nat} {fb : FB} (e : fapp L (freeze L vs) d = some fb) : ∃ fb0, L d = some fb0 ∧ fb0.g = fb.g := by
  rw [freeze_look] at e
  cases hL : L d with
  | none => rw [hL] at e; cases e
  | some fb0 =>
    rw [hL] at e
    refine ⟨fb0, rfl, ?_⟩
    cases fb0 with
    | iter => cases e; rfl
    | row => simp only at e; split at e <;> cases e <;> rfl
theorem names_old {ρ' : Rh} {I' : Im} {Lf : FHeap} {n' : Nat} (hf : Rl W ρ I' Lf H n') (hex : ExR ρ ρ') (hLf : ∀ d fb, Lf d = some fb → ∃ fb0, L d = some fb0 ∧ fb0.g = fb.g) {d : Nat} {fb : FB} {lc : Lc} (h1 : Lf d = some fb) (h2 : ρ' d fb.g = some lc) :
    ∃ d0 fb0 lc0, L d0 = some fb0 ∧ ρ d0 fb0.g = some lc0 ∧ lc0.n = lc.n := by
  obtain ⟨lc2, b, k1, _⟩ := hf.blk _ _ h1
  obtain ⟨fb0, g1, g2⟩ := hLf _ _ h1
  rw [hex _ _ _ k1] at h2; cases h2
  exact ⟨d, fb0, lc, g1, by rw [g2]; exact k1, rfl⟩
theorem Rl.freeze (h : Rl W ρ I L H n) (vs : List Nat) : Rl W ρ (addI ρ L H I vs) (fapp L (freeze L vs)) H n := by
  have inv : ∀ d fb, fapp L (Go.Proofs.YtalnnbokmpppjaaAb.freeze L vs) d = some fb → ∃ fb0, L d = some fb0 ∧ fb.g = fb0.g ∧ ((fb = fb0 ∧ (d ∉ vs ∨ ∃ g s p, fb = .iter g s p)) ∨ ∃ g fr tr ik esz c, fb0 = .row g fr tr ik esz c ∧ fb = .row g true tr ik esz c ∧ d ∈ vs) := fun d fb k => by
    rw [freeze_look] at k
    cases hL : L d with
    | none => rw [hL] at k; cases k
    | some fb0 =>
      rw [hL] at k
      cases fb0 with
      | iter g s p => cases k; exact ⟨_, rfl, rfl, .inl ⟨rfl, .inr ⟨_, _, _, rfl⟩⟩⟩
      | row g fr tr ik esz c =>
        simp only at k
        by_cases hd : d ∈ vs
        · rw [if_pos hd] at k; cases k; exact ⟨_, rfl, rfl, .inr ⟨_, _, _, _, _, _, rfl, rfl, hd⟩⟩
        · rw [if_neg hd] at k; cases k; exact ⟨_, rfl, rfl, .inl ⟨rfl, .inl hd⟩⟩
  refine ⟨h.gen, fun d fb k => ?_, fun d d' fb fb' lc lc' k k' hne e e' => ?_, addI_imm h, fun d fb lc k hf e => ?_⟩
  · obtain ⟨fb0, h1, h2, h3⟩ := inv d fb k
    obtain ⟨lc, b, k1, k2, k3⟩ := h.blk d fb0 h1
    refine ⟨lc, b, by rw [h2]; exact k1, k2, ?_⟩
    rcases h3 with ⟨rfl, _⟩ | ⟨g, fr, tr, ik, esz, c, rfl, rfl, hd⟩
    · exact k3.ext (ExR.refl _) (addI_ext _ _ _ _ _)
    · obtain ⟨q1, q2, q3, q4, q5, q6, q7, q8⟩ := k3.ext (ExR.refl ρ) (addI_ext ρ L H I vs)
      exact ⟨q1, q2, q3, q4, q5, q6, fun _ => addI_at h hd h1 k1 k2, q8⟩
  · obtain ⟨f0, h1, h2, _⟩ := inv d fb k
    obtain ⟨f1, h3, h4, _⟩ := inv d' fb' k'
    exact h.inj d d' f0 f1 lc lc' h1 h3 hne (by rw [← h2]; exact e) (by rw [← h4]; exact e')
  · obtain ⟨fb0, h1, h2, h3⟩ := inv d fb k
    rcases h3 with ⟨rfl, h3⟩ | ⟨g, fr, tr, ik, esz, c, rfl, rfl, hd⟩
    · obtain ⟨w1, w2⟩ := h.wr d fb lc h1 hf e
      refine ⟨?_, w2⟩
      rcases h3 with h3 | ⟨g, s, p, rfl⟩
      · exact addI_none h h3 h1 e w1
      · by_cases hd : d ∈ vs
        · unfold addI
          rw [w1]
          simp only
          rw [if_neg]
          rintro ⟨d', g', fr, tr, ik, esz, c, lc', q1, q2, q3, q4⟩
          by_cases x : d' = d
          · rw [x, h1] at q2; cases q2
          · exact h.inj d' d _ _ lc' lc q2 h1 x q3 e q4
        · exact addI_none h hd h1 e w1
    · cases hf
theorem lst_of {I' : Im} {nm : Nm} {o m cap : Nat} {opn : Bool} {c : List FV} {b : Blk} (hI : m ≠ 0 → I' nm = some b) (hm : m ≤ cap) (hc : m ≠ 0 → CR rh0 I' c o b) (h0 : m = 0 → c = []) (ho : opn = true → b.own = true ∧ c.length = m * b.esz) (ρ' : Rh) : VF ρ' I' (.lst m c) (.sl nm o m cap opn) := by
  by_cases e : m = 0
  · rw [h0 e]; subst e; exact .lstE _ _ _ _ _ _
  · exact .lst (hI e) (by omega) hm (hc e).1 (hc e).2 ho
theorem ref_f {d g o m : Nat} {x : V} (h : VF ρ I (.ref d g o m) x) : ∃ lc o' cap opn, ρ d g = some lc ∧ x = .sl lc.n o' m cap opn ∧ 0 < lc.esz ∧ o + m * lc.esz ≤ lc.sz ∧ m ≤ cap ∧ (cap ≠ 0 ∨ opn = true → o' = lc.base + o) ∧ (opn = true → lc.base = 0 ∧ lc.bs = lc.sz ∧ o + cap * lc.esz = lc.sz) ∧ (opn = false → lc.base + o + cap * lc.esz ≤ lc.bs) := by
  cases h with | ref hρ hz hs hc ho h1 h2 => exact ⟨_, _, _, _, hρ, rfl, hz, hs, hc, ho, h1, h2⟩
theorem CR.if_ext {tr : Bool} {c : List FV} {o : Nat} {b : Blk} (h : CR (if tr then rh0 else ρ) I c o b) : CR ρ I c o b := by
  cases tr
  · exact h
  · exact h.ext (ExR.zero ρ) (ExI.refl _)
theorem fz_ok (h : Rl W ρ I L H n) : ∀ (k : Nat), (∀ v t vs, fz L k v = some (t, vs) → ∀ v', VF ρ I v v' → VF rh0 (addI ρ L H I vs) t v') ∧ (∀ l t vs, fzL L k l = some (t, vs) → ∀ l', VFL ρ I l l' → VFL rh0 (addI ρ L H I vs) t l')
  | 0 => ⟨fun v t vs h => by simp [fz] at h, fun v t vs h => by simp [fzL] at h⟩
  | k + 1 => by
    obtain ⟨ih1, ih2⟩ := fz_ok h k
    refine ⟨fun v t vs hv v' hr => ?_, fun l t vs hl l' hr => ?_⟩
    · unfold fz at hv
      cases v <;> simp only [reduceCtorEq, Option.some.injEq, Prod.mk.injEq] at hv
      case int => obtain ⟨rfl, rfl⟩ := hv; exact hr.leaf rfl |>.ext (ExR.refl _) (addI_ext _ _ _ _ _)
      case bool => obtain ⟨rfl, rfl⟩ := hv; exact hr.leaf rfl |>.ext (ExR.refl _) (addI_ext _ _ _ _ _)
      case str => obtain ⟨rfl, rfl⟩ := hv; exact hr.leaf rfl |>.ext (ExR.refl _) (addI_ext _ _ _ _ _)
      case nilp => obtain ⟨rfl, rfl⟩ := hv; exact hr.leaf rfl |>.ext (ExR.refl _) (addI_ext _ _ _ _ _)
      case nilf => obtain ⟨rfl, rfl⟩ := hv; exact hr.leaf rfl |>.ext (ExR.refl _) (addI_ext _ _ _ _ _)
      case nili => obtain ⟨rfl, rfl⟩ := hv; exact hr.leaf rfl |>.ext (ExR.refl _) (addI_ext _ _ _ _ _)
      case lst => obtain ⟨rfl, rfl⟩ := hv; exact hr.leaf rfl |>.ext (ExR.refl _) (addI_ext _ _ _ _ _)
      case tp => obtain ⟨rfl, rfl⟩ := hv; exact hr.leaf rfl |>.ext (ExR.refl _) (addI_ext _ _ _ _ _)
      case emp =>
        obtain ⟨rfl, rfl⟩ := hv
        cases hr with
        | emp => exact .lst0 _ _
        | empS => exact .lstE _ _ _ _ _ _
      case agg l =>
        obtain ⟨q, hq, he⟩ := Option.map_eq_some_iff.1 hv
        cases he
        obtain ⟨m, rfl, hm⟩ := agg_f hr
        exact .agg' (ih2 l _ _ hq m hm)
      case tup l =>
        obtain ⟨q, hq, he⟩ := Option.map_eq_some_iff.1 hv
        cases he
        obtain ⟨m, rfl, hm⟩ := tup_f hr
        exact .tup' (ih2 l _ _ hq m hm)
      case ifc t v =>
        obtain ⟨q, hq, he⟩ := Option.map_eq_some_iff.1 hv
        cases he
        obtain ⟨m, rfl, hm⟩ := ifc_f hr
        exact .ifc t (ih1 v _ _ hq m hm)
      case clo f a b =>
        obtain ⟨x, hx, hv⟩ := Option.bind_eq_some_iff.1 hv
        obtain ⟨y, hy, he⟩ := Option.map_eq_some_iff.1 hv
        cases he
        obtain ⟨m, m2, rfl, h1, h2⟩ := clo_f hr
        exact .clo' ((ih2 a _ _ hx m h1).ext (ExR.refl _) (addI_sub fun d hd => List.mem_append_left _ hd)) ((ih2 b _ _ hy m2 h2).ext (ExR.refl _) (addI_sub fun d hd => List.mem_append_right _ hd))
      case ref d g o m =>
        obtain ⟨r, hr1, hv⟩ := Option.bind_eq_some_iff.1 hv
        split at hv
        case isFalse => cases hv
        rename_i hlen
        obtain ⟨lc, o', cap, opn, hρ, rfl, hz, hs, hcap, ho, q1, q2⟩ := ref_f hr
        obtain ⟨b, hb, hB1, hB2, hB3, hB4, hB5, hB6, hB7, hB8⟩ := h.row hr1 hρ
        have hL := rowOf_some hr1
        have hsub : ((r.2.2.2.2.drop o).take (m * r.2.2.2.1)).length = m * r.2.2.2.1 := by simp; omega
        have hoff : m ≠ 0 → o' = lc.base + o := fun hm => ho (.inl (by omega))
        split at hv
        · rename_i htr
          cases hv
          rw [htr] at hB6
          refine lst_of (fun _ => addI_at h (by simp) hL hρ hb) hcap (fun hm => ?_) (fun hm => by simp [hm]) (fun _ => ⟨hB5.own, by rw [hsub, hB4]⟩) _
          rw [hoff hm]
          exact (CR.sub hB6 o _ hlen).ext (ExR.refl _) (addI_ext _ _ _ _ _)
        · obtain ⟨q, hq, he⟩ := Option.map_eq_some_iff.1 hv
          cases he
          have hC := (CR.if_ext hB6).sub o _ hlen
          have h3 := ih2 _ _ _ hq _ hC.pw
          have hlq : q.1.length = m * r.2.2.2.1 := by
            have h5 := h3.1
            have h6 := hC.pw.1
            omega
          refine lst_of (fun _ => addI_at h (by simp) hL hρ hb) hcap (fun hm => ?_) (fun hm => by rw [hm] at hlq; simpa using hlq) (fun _ => ⟨hB5.own, by rw [hlq, hB4]⟩) _
          rw [hoff hm]
          refine CR.of (by rw [hlq]; have := hC.1; omega) ?_
          rw [hlq, ← hsub]
          exact h3.ext (ExR.refl _) (addI_sub fun d hd => List.mem_cons_of_mem _ hd)
      case ptr d g o =>
        obtain ⟨r, hr1, hv⟩ := Option.bind_eq_some_iff.1 hv
        obtain ⟨lc, hρ, rfl⟩ := ptr_f hr
        obtain ⟨b, hb, hB1, hB2, hB3, hB4, hB5, hB6, hB7, hB8⟩ := h.row hr1 hρ
        have hL := rowOf_some hr1
        split at hv
        · rename_i htr
          cases hv
          rw [htr] at hB6
          have hC := CR.ext hB6 (ExR.refl rh0) (addI_ext ρ L H I [d])
          exact .tp lc.base o (addI_at h (by simp) hL hρ hb) hC.1 hC.2
        · obtain ⟨q, hq, he⟩ := Option.map_eq_some_iff.1 hv
          cases he
          have hC := CR.if_ext hB6
          have h3 := ih2 _ _ _ hq _ hC.pw
          have hlq : q.1.length = r.2.2.2.2.length := by
            have h5 := h3.1
            have h6 := hC.pw.1
            omega
          have h4 : CR rh0 (addI ρ L H I (d :: q.2)) q.1 lc.base b := CR.of (by rw [hlq]; exact hC.1) (by rw [hlq]; exact h3.ext (ExR.refl _) (addI_sub fun d hd => List.mem_cons_of_mem _ hd))
          exact .tp lc.base o (addI_at h (by simp) hL hρ hb) h4.1 h4.2
    · cases l with
      | nil => rw [fzL] at hl; cases hl; rw [PW.nil' hr]; exact PW.nil
      | cons v l =>
        rw [fzL] at hl
        obtain ⟨q, hq, hl⟩ := Option.bind_eq_some_iff.1 hl
        obtain ⟨r, hr2, he⟩ := Option.map_eq_some_iff.1 hl
        cases he
        obtain ⟨v', l2, rfl, h1, h2⟩ := hr.head
        exact PW.cons ((ih1 v _ _ hq v' h1).ext (ExR.refl _) (addI_sub fun d hd => List.mem_append_left _ hd)) ((ih2 l _ _ hr2 l2 h2).ext (ExR.refl _) (addI_sub fun d hd => List.mem_append_right _ hd))
theorem trees_ok (h : Rl W ρ I L H n) {tr : Bool} {c c' : List FV} {vs : List Nat} (ht : trees L tr c = some (c', vs)) {m : List V} (hr : VFL (if tr then rh0 else ρ) I c m) : VFL rh0 (addI ρ L H I vs) c' m := by
  unfold trees at ht
  cases tr
  · exact (fz_ok h fuel).2 _ _ _ ht _ hr
  · cases ht
    exact PW.ext hr (ExR.refl _) (addI_ext _ _ _ _ _)
theorem VFL.strs (s : List UInt8) : VFL ρ I (s.map fun b => .int .u8 b.toNat) (strCells s) := by
  unfold strCells
  refine ⟨by simp, fun i v v' a b => ?_⟩
  rw [List.getElem?_map] at a b
  cases hs : s[i]? with
  | none => rw [hs] at a; cases a
  | some x => rw [hs] at a b; cases a; cases b; exact .int _ _ _ _
theorem lenF_ok {v : FV} {v' : V} (h : VF ρ I v v') {m : Nat} (hm : lenF v = some m) : lenV v' = some m := by
  cases h <;> simp only [lenF, reduceCtorEq, Option.some.injEq] at hm <;> subst hm <;> rfl
theorem bytes_cells (s : List UInt8) : (Blk.ints .u8 (s.map fun b => (b.toNat : Int)) false).cells = strCells s := by
  simp [Blk.cells, strCells]
theorem srcF_ok (h : Rl W ρ I L H n) {esz m : Nat} {y : FV} {c : List FV} {vs : List Nat} (hs : srcF L esz m y = some (c, vs)) {y' : V} (hr : VF ρ I y y') : ∃ l, srcCells H esz m y' = some l ∧ VFL rh0 (addI ρ L H I vs) c l ∧ c.length = m * esz := by
  cases y <;> simp only [srcF, reduceCtorEq] at hs
  case emp =>
    split at hs <;> cases hs
    rename_i e
    subst e
    cases hr with
    | emp => exact ⟨[], rfl, PW.nil, by simp⟩
    | empS => exact ⟨[], by simp [srcCells], PW.nil, by simp⟩
  case str s =>
    split at hs <;> cases hs
    rename_i e
    rw [str_f hr]
    refine ⟨_, by simp only [srcCells]; rw [if_pos e.1], ?_, by simp; rw [e.1]; omega⟩
    have := VFL.strs (ρ := rh0) (I := addI ρ L H I []) s
    have := this.take m
    rwa [← List.map_take] at this
  case bys s =>
    split at hs <;> cases hs
    rename_i e
    cases hr with
    | bys s hI =>
      have hb := h.imm _ _ hI
      simp only [srcCells]
      rw [if_pos e.2]
      by_cases hm : m = 0
      · rw [if_pos hm]; exact ⟨[], rfl, by simp [hm]; exact PW.nil, by simp [hm]⟩
      · rw [if_neg hm, hb, Option.bind_some]
        refine ⟨(strCells s).take m, ?_, ?_, by simp; rw [e.1]; omega⟩
        · unfold Blk.range
          rw [bytes_cells, if_pos (by simp [Blk.size]; rw [e.1]; omega)]
          rw [e.1]; simp
        · have := (VFL.strs (ρ := rh0) (I := addI ρ L H I []) s).take m
          rwa [← List.map_take] at this
  case lst k c0 =>
    split at hs <;> cases hs
    rename_i e
    cases hr with
    | lst0 => have : m = 0 := by omega
              subst this; exact ⟨[], rfl, by simp; exact PW.nil, by simp⟩
    | lstE => have : m = 0 := by omega
              subst this; exact ⟨[], by simp [srcCells], by simp; exact PW.nil, by simp⟩
    | lst hI hn hc hl hh ho =>
      have hb := h.imm _ _ hI
      simp only [srcCells]
      rw [if_pos e.1]
      by_cases hm : m = 0
      · rw [if_pos hm]; exact ⟨[], rfl, by simp [hm]; exact PW.nil, by simp [hm]⟩
      · rw [if_neg hm, hb, Option.bind_some]
        have hC : CR rh0 (addI ρ L H I []) c0 _ _ := CR.ext (⟨hl, hh⟩ : CR rh0 I c0 _ _) (ExR.refl _) (addI_ext _ _ _ _ _)
        obtain ⟨l, h1, h2⟩ := hC.range 0 (m * esz) (by rw [Nat.zero_add, ← e.2]; exact Nat.mul_le_mul_right _ e.1)
        exact ⟨l, by simpa using h1, by simpa using h2, by have := Nat.mul_le_mul_right esz e.1; simp; omega⟩
  case ref d g o k =>
    obtain ⟨r, hr1, hs⟩ := Option.bind_eq_some_iff.1 hs
    split at hs
    case isFalse => cases hs
    rename_i e
    obtain ⟨e1, e2, e3⟩ := e
    obtain ⟨lc, o', cap, opn, hρ, rfl, hz, hss, hcap, ho, q1, q2⟩ := ref_f hr
    obtain ⟨b, hb, hB1, hB2, hB3, hB4, hB5, hB6, hB7, hB8⟩ := h.row hr1 hρ
    simp only [srcCells]
    rw [if_pos e1]
    by_cases hm : m = 0
    · rw [if_pos hm]
      subst hm
      have := trees_ok h hs (m := []) (by simp; exact PW.nil)
      exact ⟨[], rfl, this, by rw [this.1]; simp⟩
    · rw [if_neg hm, hb, Option.bind_some, ho (.inl (by omega))]
      have hle : m * esz ≤ k * esz := Nat.mul_le_mul_right _ e1
      obtain ⟨l, h1, h2⟩ := hB6.range o (m * esz) (by omega)
      have h3 := trees_ok h hs h2
      exact ⟨l, h1, h3, by rw [h3.1, ← h2.1]; simp; omega⟩
end
end Go.Proofs.YtalnnbokmpppjaaAb
