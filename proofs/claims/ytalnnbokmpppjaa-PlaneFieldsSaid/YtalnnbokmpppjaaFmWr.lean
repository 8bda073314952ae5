/- Operations of the functional machine are the abstract machine's: those that make or write blocks. -/
import Derived.Test.YtalnnbokmpppjaaFmOp
namespace Go.Proofs.YtalnnbokmpppjaaAb
open Go
set_option linter.unusedVariables false
set_option linter.unusedSimpArgs false
theorem fover_get {α : Type} {l xs : List α} {o : Nat} (h : o + xs.length ≤ l.length) (i : Nat) : (over l o xs)[i]? = if o ≤ i ∧ i < o + xs.length then xs[i - o]? else l[i]? := by
  unfold over
  by_cases h1 : i < o
  · rw [if_neg (by omega), List.append_assoc, List.getElem?_append_left (by simp; omega), List.getElem?_take, if_pos h1]
  · by_cases h2 : i < o + xs.length
    · rw [if_pos ⟨by omega, h2⟩, List.getElem?_append_left (by simp; omega), List.getElem?_append_right (by simp; omega)]
      congr 1; simp; omega
    · rw [if_neg (by omega), List.getElem?_append_right (by simp; omega), List.getElem?_drop]
      congr 1; simp; omega
theorem fover_len {α : Type} {l xs : List α} {o : Nat} (h : o + xs.length ≤ l.length) : (over l o xs).length = l.length := by
  unfold over; simp; omega
theorem intsOf_kind {ρ : Rh} {I : Im} {k : IntKind} : ∀ {c : List FV} {m : List V}, VFL ρ I c m → kindOK (some k) c = true → ∃ l : List Int, m = l.map (V.int k) ∧ intsOf k m = some l ∧ l.length = c.length
  | [], m, h, _ => by rw [PW.nil' h]; exact ⟨[], rfl, rfl, rfl⟩
  | v :: c, m, h, hk => by
    obtain ⟨v', m', rfl, h1, h2⟩ := h.head
    simp only [kindOK, List.all_cons, Bool.and_eq_true] at hk
    obtain ⟨l, rfl, h4, h5⟩ := intsOf_kind h2 (by simpa [kindOK] using hk.2)
    cases v <;> simp only [Bool.false_eq_true, false_and, decide_eq_true_eq] at hk
    rename_i k' n
    obtain ⟨rfl, _⟩ := hk
    rw [int_f h1]
    exact ⟨n :: l, rfl, by simp [intsOf, h4], by simp [h5]⟩
section
variable {W : Nm → Prop} {ρ : Rh} {I : Im} {L : FHeap} {H : Heap} {n : Nat} {q : Nm}
theorem put_ok {ik : Option IntKind} {b : Blk} (hb : KindR ik b) {w : List FV} {ws : List V} (hw : VFL ρ I w ws) (hk : kindOK ik w = true) {o : Nat} (ho : o + w.length ≤ b.size) :
    ∃ b', b.put o ws = some b' ∧ KindR ik b' ∧ b'.cells = over b.cells o ws ∧ b'.size = b.size ∧ b'.esz = b.esz := by
  cases ik with
  | none =>
    obtain ⟨c, e, rfl⟩ := hb
    have h1 : o + ws.length ≤ c.length := by rw [← hw.1]; exact ho
    exact ⟨.row (over c o ws) e true, by simp only [Blk.put]; rw [if_pos h1], ⟨_, _, rfl⟩, rfl, fover_len h1, rfl⟩
  | some k =>
    obtain ⟨l, rfl⟩ := hb
    obtain ⟨ys, rfl, h2, h3⟩ := intsOf_kind hw hk
    have h1 : o + ys.length ≤ l.length := by rw [h3]; exact ho
    refine ⟨.ints k (over l o ys) true, by simp only [Blk.put, h2, Option.bind_some]; rw [if_pos h1], ⟨_, rfl⟩, ?_, fover_len h1, rfl⟩
    simp [Blk.cells, over, List.map_take, List.map_drop]
theorem mkBlk_ok {ik : Option IntKind} {esz : Nat} {c : List FV} {cs : List V} (hw : VFL ρ I c cs) (hk : kindOK ik c = true) (he : ik.isSome = true → esz = 1) : ∃ b, mkBlk ik esz cs = some b ∧ KindR ik b ∧ b.cells = cs ∧ b.esz = esz ∧ b.size = c.length := by
  cases ik with
  | none => exact ⟨.row cs esz true, rfl, ⟨_, _, rfl⟩, rfl, rfl, hw.1.symm⟩
  | some k =>
    obtain ⟨ys, rfl, h2, h3⟩ := intsOf_kind hw hk
    have := he rfl
    subst this
    exact ⟨.ints k ys true, by simp [mkBlk, h2], ⟨_, rfl⟩, rfl, rfl, h3⟩
theorem CR.over {c w : List FV} {ws : List V} {base o : Nat} {b b' : Blk} (h : CR ρ I c base b) (hw : VFL ρ I w ws) (ho : o + w.length ≤ c.length) (hc : b'.cells = over b.cells (base + o) ws) (hs : b'.size = b.size) : CR ρ I (over c o w) base b' := by
  have h1 := h.1
  have hsz := Blk.size_cells b
  refine ⟨by rw [fover_len ho, hs]; exact h1, fun i v v' hv hv' => ?_⟩
  rw [fover_get ho] at hv
  rw [hc, fover_get (by rw [← hw.1]; omega)] at hv'
  by_cases e : o ≤ i ∧ i < o + w.length
  · rw [if_pos e] at hv
    rw [if_pos ⟨by omega, by rw [← hw.1]; omega⟩] at hv'
    exact hw.2 (i - o) v v' hv (by rw [← hv']; congr 1; omega)
  · rw [if_neg e] at hv
    rw [if_neg (by rw [← hw.1]; omega)] at hv'
    exact h.2 i v v' hv hv'
theorem flook_freeze {d : Nat} {g : Nat} {fr tr : Bool} {ik : Option IntKind} {esz : Nat} {c : List FV} : ∀ {vs : List Nat}, d ∈ vs → L d = some (.row g fr tr ik esz c) → (flook (freeze L vs) d).isSome = true
  | [], h, _ => by cases h
  | e :: vs, h, hL => by
    rw [Go.Proofs.YtalnnbokmpppjaaAb.freeze]
    by_cases x : d = e
    · subst x; rw [hL]; simp only [flook, if_true]; rfl
    · have h' : d ∈ vs := (List.mem_cons.1 h).resolve_left x
      have ih := flook_freeze h' hL
      split
      · simp only [flook]; rw [if_neg x]; exact ih
      · exact ih
theorem flook_cons_some {d e : Nat} {b : Option FB} {u : FUpd} (h : (flook u d).isSome = true) : (flook ((e, b) :: u) d).isSome = true := by
  simp only [flook]; split
  · rfl
  · exact h
/-- the names that come to be read-only are those of blocks that are met -/
theorem addI_names {vs : List Nat} {fu : FUpd} (hfu : ∀ d ∈ vs, ∀ g fr tr ik esz c, L d = some (.row g fr tr ik esz c) → (flook fu d).isSome = true) : ∀ m b, addI ρ L H I vs m = some b → I m = none → under q m = true ∨ ∃ d fb lc, L d = some fb ∧ ρ d fb.g = some lc ∧ lc.n = m ∧ (flook fu d).isSome = true := fun m b h1 h2 => by
  obtain ⟨d, g, fr, tr, ik, esz, c, lc, a1, a2, a3, a4⟩ := addI_new h1 h2
  exact .inr ⟨d, _, lc, a2, a3, a4, hfu d a1 _ _ _ _ _ _ a2⟩
theorem rho_new (h : Rl W ρ I L H n) (d : Nat) : ρ d n = none := by
  cases hc : ρ d n with
  | none => rfl
  | some lc => exact absurd (h.gen _ _ _ hc) (Nat.lt_irrefl _)
theorem put_new {d : Nat} {lc : Lc} : ∀ d' g l, ρ.put d n lc d' g = some l → ρ d' g = some l ∨ g = n := fun d' g l k => by
  unfold Rh.put at k
  split at k
  · rename_i e; exact .inr e.2
  · exact .inl k
/-- a new block -/
theorem Dn.new (h : Rl W ρ I L H n) (hq : H q = none) (hW : W q) {d : Nat} {tr : Bool} {ik : Option IntKind} {esz : Nat} {c : List FV} {vs : List Nat} {b : Blk} (hk : KindR ik b) (hs : b.size = c.length) (hez : b.esz = esz)
    {cs : List V} (hcs : b.cells = cs) (hc : VFL (if tr then rh0 else ρ) (addI ρ L H I vs) c cs) {v : FV} {v' : V} (hv : VF (ρ.put d n ⟨q, 0, b.size, c.length, esz, ik⟩) (addI ρ L H I vs) v v') :
    Dn W q ρ I L H n v ((d, some (.row n false tr ik esz c)) :: freeze L vs) v' [(q, some b)] := by
  have hex := Rh.put_ext (⟨q, 0, b.size, c.length, esz, ik⟩ : Lc) (rho_new h d)
  have hf := h.freeze vs
  have hne : ∀ m c, H m = some c → m ≠ q := fun m c hm e => by rw [e, hq] at hm; cases hm
  refine ⟨_, _, hex, put_new, addI_ext _ _ _ _ _, hv, ?_, fun x hx => ?_, addI_names fun e he g fr tr ik esz c hL => flook_cons_some (flook_freeze he hL), fun d' fb lc e1 e2 => ?_⟩
  rotate_left 2
  · rw [fapp_cons] at e1
    replace e1 : (if d' = d then _ else _) = some fb := e1
    by_cases x : d' = d
    · rw [if_pos x] at e1; cases e1; subst x
      rw [show FB.g (.row n false tr ik esz c) = n from rfl, Rh.put_at] at e2; cases e2
      exact .inl (under_self q)
    · rw [if_neg x] at e1
      exact .inr (names_old hf hex (fun _ _ e => freeze_live e) e1 e2)
  · rw [fapp_cons]
    refine hf.add d (.row n false tr ik esz c) hex (Rh.put_gen h.gen (Nat.lt_succ_self n)) (lc := ⟨q, 0, b.size, c.length, esz, ik⟩) (Rh.put_at _ _ _ _) (b := b) (by rw [app_one, if_pos rfl]) ⟨rfl, rfl, rfl, hez, hk, ?_, (fun e => by cases e), rfl⟩ (fun d' fb' lc' hd hL he => ?_) (fun m b' hm => ?_) (fun _ => ⟨?_, hW⟩)
    · have : CR (if tr then rh0 else ρ) (addI ρ L H I vs) c 0 b := CR.of (by rw [hs]; omega) (by rw [hcs, List.drop_zero, List.take_of_length_le (by rw [← hc.1]; exact Nat.le_refl _)]; exact hc)
      cases tr
      · exact this.ext hex (ExI.refl _)
      · exact this
    · obtain ⟨lc2, b2, k1, k2, _⟩ := hf.blk d' fb' hL
      rw [he] at k1; cases k1
      exact ⟨hne _ _ k2, by rw [app_one, if_neg (hne _ _ k2)]⟩
    · have := hf.imm m b' hm
      rw [app_one, if_neg (hne _ _ this)]; exact this
    · cases hI : addI ρ L H I vs q with
      | none => rfl
      | some b' => have := hf.imm _ _ hI; rw [hq] at this; cases this
  · simp only [List.mem_singleton] at hx
    subst hx
    exact .inl (under_self q)
theorem VF.newref {d : Nat} {lc : Lc} {I' : Im} (k esz : Nat) (hz : 0 < esz) (he : lc.esz = esz) (hb : lc.base = 0) (h1 : k * esz ≤ lc.sz) (cap : Nat) (opn : Bool) (hc : k ≤ cap) (ho : opn = true → lc.bs = lc.sz ∧ cap * esz = lc.sz) (ho2 : opn = false → cap * esz ≤ lc.bs) : VF (ρ.put d n lc) I' (.ref d n 0 k) (.sl lc.n 0 k cap opn) :=
  .ref (Rh.put_at _ _ _ _) (by omega) (by rw [he]; omega) hc (fun _ => by rw [hb]) (fun h => ⟨hb, (ho h).1, by rw [he]; have := (ho h).2; omega⟩) (fun h => by rw [hb, he]; have := ho2 h; omega)
theorem fNew_ok (h : Rl W ρ I L H n) (hq : H q = none) (hW : W q) {d esz l : Nat} {tr : Bool} {ik : Option IntKind} {c : List FV} {cs : List V} {v : FV} {fu : FUpd} (hv : fNew d n tr ik esz l c = some (v, fu)) (hc : VFL (if tr then rh0 else ρ) I c cs)
    (hz : 0 < esz) (he : ik.isSome = true → esz = 1) (cap : Nat) (hl : l ≤ cap) (hcap : cap * esz = c.length) : ∃ b, mkBlk ik esz cs = some b ∧ Dn W q ρ I L H n v fu (.sl q 0 l cap false) [(q, some b)] := by
  unfold fNew at hv
  split at hv <;> cases hv
  rename_i hk
  obtain ⟨b, h1, h2, h3, h4, h5⟩ := mkBlk_ok hc hk he
  refine ⟨b, h1, ?_⟩
  have hA : addI ρ L H I [] = I := addI_nil _ _ _ _
  have := Dn.new h hq hW (d := d) (tr := tr) (vs := []) h2 h5 h4 h3 (by rw [hA]; exact hc) (v := .ref d n 0 l) (v' := .sl q 0 l cap false) (by
    have hle : l * esz ≤ cap * esz := Nat.mul_le_mul_right _ hl
    exact VF.newref l esz hz rfl rfl (by show l * esz ≤ c.length; omega) cap false hl (fun h => by cases h) (fun _ => by show cap * esz ≤ b.size; omega))
  simpa [freeze] using this
theorem tileF_ok {z : List V} (m : Nat) : VFL ρ I (tileF (z.map ofS) m) (tile z m) := by
  unfold tileF tile
  refine PW.map ⟨rfl, fun i v v' a b => ?_⟩
  rw [a] at b; cases b
  simp only [List.length_map]
  simp only [List.getD_eq_getElem?_getD, List.getElem?_map]
  cases z[v % z.length]? with
  | none => exact .bad _ _ _
  | some x => exact VF.ofS x
theorem tileF_leaf {z : List FV} {l : List V} (hz : z.all FV.leaf = true) {m : Nat} (h : VFL ρ I (tileF z m) l) : VFL rh0 I (tileF z m) l := by
  refine ⟨h.1, fun i v v' a b => ?_⟩
  have h1 := h.2 i v v' a b
  unfold tileF at a
  rw [List.getElem?_map] at a
  obtain ⟨j, hj, rfl⟩ := Option.map_eq_some_iff.1 a
  rw [List.getD_eq_getElem?_getD] at h1 ⊢
  cases hc : z[j % z.length]? with
  | none => exact .bad _ _ _
  | some x =>
    rw [hc] at h1
    exact h1.leaf (List.all_eq_true.1 hz x (List.mem_of_getElem? hc))
theorem fMk_ok (h : Rl W ρ I L H n) (hq : H q = none) (hW : W q) {d esz eb : Nat} {ik : Option IntKind} {z : List V} {l c : FV} {l' c' : V} (hl : VF ρ I l l') (hc : VF ρ I c c') {v : FV} {fu : FUpd} (hv : fMk d n esz eb ik (z.map ofS) l c = some (v, fu)) :
    ∃ k1 k2 b, natOf l' = some k1 ∧ natOf c' = some k2 ∧ k1 ≤ k2 ∧ eb * k2 ≤ 140737488351232 ∧ mkBlk ik esz (tile z (k2 * esz)) = some b ∧ Dn W q ρ I L H n v fu (.sl q 0 k1 k2 false) [(q, some b)] := by
  unfold fMk at hv
  obtain ⟨k1, h1, hv1⟩ := Option.bind_eq_some_iff.1 hv
  obtain ⟨k2, h2, hv2⟩ := Option.bind_eq_some_iff.1 hv1
  clear hv hv1
  split at hv2
  case isFalse => cases hv2
  rename_i e
  obtain ⟨e1, e2, e3, e4, e5⟩ := e
  obtain ⟨b, g1, g2⟩ := fNew_ok h hq hW hv2 (tileF_leaf e3 (tileF_ok (ρ := ρ) (k2 * esz))) e4 e5 k2 e1 (by simp [tileF])
  exact ⟨k1, k2, b, fNat_ok hl h1, fNat_ok hc h2, e1, e2, g1, g2⟩
theorem fBldS_ok (h : Rl W ρ I L H n) (hq : H q = none) (hW : W q) {d len esz : Nat} {ik : Option IntKind} {z : List V} {ps : List (Nat × Nat × FV)} {ps' : List (Nat × Nat × V)} (hp : PW (fun a b => a.1 = b.1 ∧ a.2.1 = b.2.1 ∧ VF ρ I a.2.2 b.2.2) ps ps')
    {v : FV} {fu : FUpd} (hv : fBldS d n len esz ik (z.map ofS) ps = some (v, fu)) : ∃ c b, fillV z ps' = some c ∧ mkBlk ik esz c = some b ∧ Dn W q ρ I L H n v fu (.sl q 0 len len false) [(q, some b)] := by
  unfold fBldS at hv
  obtain ⟨c, hc, hv1⟩ := Option.bind_eq_some_iff.1 hv
  obtain ⟨c', h1, h2⟩ := fFill_ok hp (VFL.ofS (ρ := ρ) (I := I) z) hc
  split at hv1
  case isFalse => cases hv1
  rename_i e
  by_cases e0 : len = 0
  · rw [if_pos e0] at hv1
    cases hv1
    obtain ⟨e1, e2, e3⟩ := e
    subst e0
    have hc0 : c = [] := List.eq_nil_of_length_eq_zero (by omega)
    subst hc0
    rw [PW.nil' h2] at h1
    obtain ⟨b, hb, _⟩ := mkBlk_ok (ρ := ρ) (I := I) (ik := ik) (esz := esz) (c := []) PW.nil (by cases ik <;> rfl) e3
    refine ⟨[], b, h1, hb, ?_⟩
    refine ⟨ρ, I, ExR.refl _, fun _ _ _ h => .inl h, ExI.refl _, .empS _ _ _ _, ?_, fun x hx => by simp only [List.mem_singleton] at hx; subst hx; exact .inl (under_self q), (fun m b h1 h2 => by rw [h2] at h1; cases h1), fun d fb lc a b => .inr ⟨d, fb, lc, a, b, rfl⟩⟩
    have hne : ∀ m c, H m = some c → m ≠ q := fun m c hm e => by rw [e, hq] at hm; cases hm
    refine ⟨fun d g lc k => Nat.lt_succ_of_lt (h.gen d g lc k), fun d fb k => ?_, h.inj, fun m b' hm => ?_, h.wr⟩
    · obtain ⟨lc, b', k1, k2, k3⟩ := h.blk d fb k
      exact ⟨lc, b', k1, by rw [app_one, if_neg (hne _ _ k2)]; exact k2, k3⟩
    · have := h.imm m b' hm
      rw [app_one, if_neg (hne _ _ this)]; exact this
  · rw [if_neg e0] at hv1
    have hcl : VFL (if c.all FV.leaf then rh0 else ρ) I c c' := by
      cases hl : c.all FV.leaf
      · exact h2
      · exact h2.leaf hl
    obtain ⟨b, g1, g2⟩ := fNew_ok h hq hW hv1 hcl e.2.1 e.2.2 len (Nat.le_refl _) e.1
    exact ⟨c', b, h1, g1, g2⟩
/-- a block is written in its place -/
theorem Dn.write (h : Rl W ρ I L H n) {d g : Nat} {tr : Bool} {ik : Option IntKind} {esz : Nat} {c c' : List FV} {vs : List Nat} (hL : L d = some (.row g false tr ik esz c)) (hd : d ∉ vs) {lc : Lc} (hρ : ρ d g = some lc) {b b' : Blk} (hb : H lc.n = some b)
    (hk : KindR ik b') (hs : b'.size = b.size) (he : b'.esz = b.esz) (hc : CR (if tr then rh0 else ρ) (addI ρ L H I vs) c' lc.base b') (hl : c'.length = c.length) (hB : BRel ρ I lc (.row g false tr ik esz c) b) {v : FV} {v' : V} (hv : VF ρ I v v') :
    Dn W q ρ I L H n v ((d, some (.row g false tr ik esz c')) :: freeze L vs) v' [(lc.n, some b')] := by
  have hf := h.freeze vs
  have hlive : fapp L (Go.Proofs.YtalnnbokmpppjaaAb.freeze L vs) d = some (.row g false tr ik esz c) := by rw [freeze_look, hL]; simp [hd]
  obtain ⟨hw1, hw2⟩ := hf.wr d _ lc hlive rfl hρ
  have hgn : g < n := h.gen _ _ _ hρ
  refine ⟨ρ, _, ExR.refl _, fun _ _ _ h => .inl h, addI_ext ρ L H I vs, hv.ext (ExR.refl _) (addI_ext _ _ _ _ _), ?_, fun x hx => ?_, addI_names fun e he g fr tr ik esz c hL => flook_cons_some (flook_freeze he hL), fun d' fb lc2 e1 e2 => ?_⟩
  rotate_left 2
  · rw [fapp_cons] at e1
    replace e1 : (if d' = d then _ else _) = some fb := e1
    by_cases x : d' = d
    · rw [if_pos x] at e1; cases e1; subst x
      exact .inr ⟨d', _, lc2, hL, e2, rfl⟩
    · rw [if_neg x] at e1
      exact .inr (names_old hf (ExR.refl _) (fun _ _ e => freeze_live e) e1 e2)
  · rw [fapp_cons]
    obtain ⟨q1, q2, q3, q4, q5, q6, q7, q8⟩ := hB
    refine hf.add d (.row g false tr ik esz c') (ExR.refl ρ) (fun d g lc k => Nat.lt_succ_of_lt (h.gen d g lc k)) (lc := lc) hρ (b := b') (by rw [app_one, if_pos rfl]) ⟨by rw [hl]; exact q1, q2, by rw [hs]; exact q3, by rw [he]; exact q4, hk, hc, (fun e => by cases e), q8⟩ (fun d' fb' lc' hd' hL' he' => ?_) (fun m bm hm => ?_) (fun _ => ⟨hw1, hw2⟩)
    · have hne := hf.inj d' d fb' _ lc' lc hL' hlive hd' he' hρ
      exact ⟨hne, by rw [app_one, if_neg hne]⟩
    · have hne : m ≠ lc.n := fun e => by rw [e, hw1] at hm; cases hm
      rw [app_one, if_neg hne]; exact hf.imm m bm hm
  · simp only [List.mem_singleton] at hx
    subst hx
    refine .inr ⟨⟨d, _, lc, hL, rfl, hρ, rfl, by simp only [flook, if_true]; rfl⟩, ?_⟩
    have : (g == n) = false := by simp; omega
    simp [olds, oldB, this]
theorem fStore_ok (h : Rl W ρ I L H n) {sz : Nat} {x y : FV} {x' y' : V} (hx : VF ρ I x x') (hy : VF ρ I y y') {v : FV} {fu : FUpd} (hv : fStore L sz x y = some (v, fu)) :
    ∃ nm o b b', x' = .ptr nm o ∧ y'.cells.length = sz ∧ H nm = some b ∧ b.put o y'.cells = some b' ∧ Dn W q ρ I L H n v fu undefV [(nm, some b')] := by
  unfold fStore at hv
  split at hv
  case h_2 => cases hv
  rename_i d g o
  obtain ⟨w, hw, hv1⟩ := Option.bind_eq_some_iff.1 hv
  clear hv
  split at hv1
  case isFalse => cases hv1
  rename_i e0
  obtain ⟨r, hr, hv2⟩ := Option.bind_eq_some_iff.1 hv1
  clear hv1
  split at hv2
  case isFalse => cases hv2
  rename_i e1
  obtain ⟨⟨w1, vs⟩, ht, hv3⟩ := Option.bind_eq_some_iff.1 hv2
  clear hv2
  simp only at hv3
  split at hv3 <;> cases hv3
  rename_i e2
  obtain ⟨lc, hρ, rfl⟩ := ptr_f hx
  obtain ⟨b, hb, hB⟩ := h.row hr hρ
  have hL := rowOf_some hr
  have hcy := hy.cells hw
  obtain ⟨hB1, hB2, hB3, hB4, hB5, hB6, hB7, hB8⟩ := id hB
  have hw1 : VFL (if r.2.1 then rh0 else ρ) (addI ρ L H I vs) w1 y'.cells := by
    split at ht
    · rename_i htr
      rw [htr]
      refine trees_ok h ht (m := y'.cells) ?_
      cases hl : w.all FV.leaf
      · exact hcy
      · exact hcy.leaf hl
    · rename_i htr
      cases ht
      rw [show r.2.1 = false by simpa using htr]
      exact PW.ext hcy (ExR.refl _) (addI_ext _ _ _ _ _)
  have hlen : w1.length = sz := by rw [hw1.1, ← hcy.1]; exact e0
  have hle := hB6.1
  obtain ⟨b', p1, p2, p3, p4, p5⟩ := put_ok (ρ := if r.2.1 then rh0 else ρ) hB5 hw1 e2.1 (o := lc.base + o) (by rw [hlen]; omega)
  refine ⟨lc.n, lc.base + o, b, b', rfl, by rw [← hcy.1]; exact e0, hb, p1, ?_⟩
  have hL' : L d = some (.row g false r.2.1 r.2.2.1 r.2.2.2.1 r.2.2.2.2) := by rw [hL, e1.1]
  refine Dn.write h hL' e2.2 hρ hb p2 p4 p5 ?_ (fover_len (by rw [hlen]; exact e1.2)) (by rw [← e1.1]; exact hB) VF.undef
  exact CR.over (hB6.ext (ExR.refl _) (addI_ext _ _ _ _ _)) hw1 (by rw [hlen]; exact e1.2) p3 p4
theorem fCopy_ok (h : Rl W ρ I L H n) {esz : Nat} {x y : FV} {x' y' : V} (hx : VF ρ I x x') (hy : VF ρ I y y') {v : FV} {fu : FUpd} (hv : fCopy L esz x y = some (v, fu)) {call : CallF} {e : Env} {xx yy : X} (ex : xx.ev e = x') (ey : yy.ev e = y') :
    ∃ v' u, evI call e H q (.copy esz xx yy) = some (v', u) ∧ Dn W q ρ I L H n v fu v' u := by
  unfold fCopy at hv
  obtain ⟨m, hm, hv1⟩ := Option.bind_eq_some_iff.1 hv
  clear hv
  simp only [evI, ex, ey, lenF_ok hy hm, Option.bind_some]
  split at hv1
  · cases hv1
    cases hx with
    | emp => exact ⟨_, _, rfl, Dn.dry h (.int _ _ _ _)⟩
    | empS => exact ⟨_, _, by simp only [Nat.min_zero, if_true], Dn.dry h (.int _ _ _ _)⟩
  · rename_i d g o len
    obtain ⟨lc, o', cap, opn, hρ, rfl, hz, hs, hcap, ho, q1, q2⟩ := ref_f hx
    simp only
    by_cases e0 : min m len = 0
    · rw [if_pos e0] at hv1; cases hv1
      rw [if_pos e0]
      exact ⟨_, _, rfl, Dn.dry h (.int _ _ _ _)⟩
    · rw [if_neg e0] at hv1
      obtain ⟨⟨c, vs⟩, hc, hv2⟩ := Option.bind_eq_some_iff.1 hv1
      obtain ⟨r, hr, hv3⟩ := Option.bind_eq_some_iff.1 hv2
      clear hv1 hv2
      simp only at hv3
      split at hv3 <;> cases hv3
      rename_i e1
      obtain ⟨e1, e2, e3, e4, e5⟩ := e1
      obtain ⟨l, k1, k2, k3⟩ := srcF_ok h hc hy
      obtain ⟨b, hb, hB⟩ := h.row hr hρ
      have hL := rowOf_some hr
      obtain ⟨hB1, hB2, hB3, hB4, hB5, hB6, hB7, hB8⟩ := id hB
      have hle := hB6.1
      obtain ⟨b', p1, p2, p3, p4, p5⟩ := put_ok hB5 k2 e4 (o := lc.base + o) (by omega)
      rw [if_neg e0, k1, Option.bind_some, hb, Option.bind_some, ho (.inl (by omega)), p1]
      refine ⟨_, _, rfl, ?_⟩
      have hL' : L d = some (.row g false r.2.1 r.2.2.1 r.2.2.2.1 r.2.2.2.2) := by rw [hL, e1]
      rw [e2] at hL' hB
      have := Dn.write (q := q) h hL' e5 hρ hb p2 p4 p5 (c' := over r.2.2.2.2 o c) (CR.over (hB6.ext (ExR.refl _) (addI_ext _ _ _ _ _)) (k2.ext (by split; exact ExR.refl _; exact ExR.zero _) (ExI.refl _)) (by omega) p3 p4) (fover_len (by omega)) (by rw [← e1]; exact hB) (v := .int .i64 (min m len : Nat)) (v' := .int .i64 (min m len : Nat)) (.int _ _ _ _)
      exact this
  · cases hv1
theorem app_cons' (H : Heap) (n : Nm) (b : Option Blk) (u : Upd) (m : Nm) : app H ((n, b) :: u) m = if m = n then b else app H u m := by
  show (match look ((n, b) :: u) m with | some b => b | none => H m) = _
  simp only [look]
  by_cases h : m = n
  · rw [if_pos h, if_pos h]
  · rw [if_neg h, if_neg h]; rfl
theorem Rl.dropped (h : Rl W ρ I L H n) (d0 : Nat) : Rl W ρ I (fun x => if x = d0 then none else L x) H n :=
  h.le (fun d fb k => by split at k; cases k; exact k) (Nat.le_refl _)
theorem fApp_ok (h : Rl W ρ I L H n) (hq : H q = none) (hW : W q) {d esz eb : Nat} {ik : Option IntKind} {x y : FV} {x' y' : V} (hx : VF ρ I x x') (hy : VF ρ I y y') {v : FV} {fu : FUpd} (hv : fApp L d n esz eb ik x y = some (v, fu)) :
    ∃ v' u, evApp H q esz eb ik x' y' = some (v', u) ∧ Dn W q ρ I L H n v fu v' u := by
  unfold fApp at hv
  obtain ⟨m, hm, hv1⟩ := Option.bind_eq_some_iff.1 hv
  obtain ⟨⟨ys, vs⟩, hys, hv2⟩ := Option.bind_eq_some_iff.1 hv1
  clear hv hv1
  obtain ⟨l, k1, k2, k3⟩ := srcF_ok h hys hy
  unfold evApp
  simp only [lenF_ok hy hm, Option.bind_some, k1]
  have hne : ∀ m c, H m = some c → m ≠ q := fun m c hm e => by rw [e, hq] at hm; cases hm
  by_cases e0 : m = 0
  · rw [if_pos e0] at hv2
    split at hv2 <;> cases hv2
    · cases hx with
      | emp => exact ⟨_, _, by simp only []; rw [if_pos e0], Dn.dry h (.emp _ _)⟩
      | empS => exact ⟨_, _, by simp only []; rw [if_neg (by omega), if_pos e0], Dn.dry h (.empS _ _ _ _)⟩
    · cases hx with
      | lst0 => exact ⟨_, _, by simp only []; rw [if_pos e0], Dn.dry h (.lst0 _ _)⟩
      | lstE => exact ⟨_, _, by simp only []; rw [if_neg (by omega), if_pos e0], Dn.dry h (.lstE _ _ _ _ _ _)⟩
      | lst hI hn hc hl hcell ho => exact ⟨_, _, by simp only []; rw [if_neg (by omega), if_pos e0], Dn.dry h (.lst hI hn hc hl hcell ho)⟩
    · have hx' := hx
      obtain ⟨lc, o', cap, opn, hρ, rfl, hz, hs, hcap, ho, q1, q2⟩ := ref_f hx
      exact ⟨_, _, by simp only []; rw [if_neg (by omega), if_pos e0], Dn.dry h hx'⟩
  · rw [if_neg e0] at hv2
    by_cases e1 : 0 < esz ∧ (ik.isSome = true → esz = 1) ∧ kindOK ik ys = true
    case neg => rw [if_neg e1] at hv2; cases hv2
    rw [if_pos e1] at hv2
    obtain ⟨hz, hik, hko⟩ := e1
    split at hv2
    · split at hv2 <;> cases hv2
      rename_i e2
      obtain ⟨b, g1, g2, g3, g4, g5⟩ := mkBlk_ok k2 hko hik
      have hlen : m * esz = ys.length := k3.symm
      cases hx with
      | emp =>
        refine ⟨_, _, by simp only []; rw [if_neg e0, if_pos e2, g1]; rfl, ?_⟩
        exact Dn.new h hq hW (tr := true) g2 g5 g4 g3 k2 (VF.newref m esz hz rfl rfl (by show m * esz ≤ ys.length; omega) m true (Nat.le_refl _) (fun _ => ⟨g5, by show m * esz = ys.length; omega⟩) (fun h => by cases h))
      | empS =>
        refine ⟨_, _, by simp only []; rw [if_neg (by omega), if_neg e0, Nat.zero_add, if_neg (by omega), if_neg (by simp), if_neg (by omega), if_pos trivial, Option.bind_some, List.nil_append, g1]; rfl, ?_⟩
        exact Dn.new h hq hW (tr := true) g2 g5 g4 g3 k2 (VF.newref m esz hz rfl rfl (by show m * esz ≤ ys.length; omega) m true (Nat.le_refl _) (fun _ => ⟨g5, by show m * esz = ys.length; omega⟩) (fun h => by cases h))
    · rename_i d0 g0 o len
      obtain ⟨r, hr, hv3⟩ := Option.bind_eq_some_iff.1 hv2
      clear hv2
      split at hv3
      case isFalse => cases hv3
      rename_i e2
      obtain ⟨⟨c, vs2⟩, hc, hv4⟩ := Option.bind_eq_some_iff.1 hv3
      clear hv3
      simp only at hv4
      split at hv4 <;> cases hv4
      rename_i e3
      obtain ⟨e3, e4, e5⟩ := e3
      obtain ⟨f1, f2, f3, f4, f5, f6⟩ := e2
      subst f2
      obtain ⟨lc, o', cap, opn, hρ, rfl, hz', hs, hcap, ho, q1, q2⟩ := ref_f hx
      obtain ⟨b, hb, hB⟩ := h.row hr hρ
      have hL := rowOf_some hr
      obtain ⟨hB1, hB2, hB3, hB4, hB5, hB6, hB7, hB8⟩ := id hB
      have hle := hB6.1
      have hlez : lc.esz = esz := hB2.trans f4
      rw [hlez] at q1 q2 hs
      -- the elder cells
      have hcells : VFL (if r.2.1 then rh0 else ρ) I r.2.2.2.2 ((b.cells.drop lc.base).take r.2.2.2.2.length) := hB6.pw
      have hc2 := trees_ok h hc hcells
      have hall : VFL rh0 (addI ρ L H I (vs ++ vs2)) (c ++ ys) (((b.cells.drop lc.base).take r.2.2.2.2.length) ++ l) :=
        (hc2.ext (ExR.refl _) (addI_sub fun d hd => List.mem_append_right _ hd)).append (k2.ext (ExR.refl _) (addI_sub fun d hd => List.mem_append_left _ hd))
      have hkall : kindOK ik (c ++ ys) = true := by
        cases ik with
        | none => rfl
        | some k => simp only [kindOK, List.all_append, Bool.and_eq_true] at *; exact ⟨e3, hko⟩
      have hclen : c.length = len * esz := by rw [hc2.1, ← hcells.1]; exact f5.symm
      have hlall : (c ++ ys).length = (len + m) * esz := by rw [List.length_append, hclen, k3, Nat.add_mul]
      have hd0 : d0 ∉ vs ++ vs2 := by simp [e4, e5]
      have hwr := h.wr d0 _ lc hL f1 hρ
      obtain ⟨nb, g1, g2, g3, g4, g5⟩ := mkBlk_ok hall hkall hik
      -- what is left when the elder block is taken away
      have fin : ∀ (lc' : Lc) (b' : Blk) (u : Upd) (v' : V), KindR ik b' → lc'.sz = (c ++ ys).length → lc'.ik = ik → lc'.esz = esz → lc'.bs = b'.size → b'.esz = esz → CR rh0 (addI ρ L H I (vs ++ vs2)) (c ++ ys) lc'.base b' → (lc'.n = q ∨ lc'.n = lc.n) →
          app H u lc'.n = some b' → (∀ x, x ≠ q → x ≠ lc.n → app H u x = H x) → (∀ x ∈ u, x.1 = q ∨ x.1 = lc.n) → VF (ρ.put d n lc') (addI ρ L H I (vs ++ vs2)) (.ref d n 0 (len + m)) v' →
          Dn W q ρ I L H n (.ref d n 0 (len + m)) ((d, some (.row n false true ik esz (c ++ ys))) :: (d0, none) :: freeze L (vs ++ vs2)) v' u := fun lc' b' u v' a1 a2 a2' a3 a4 a5 a6 a7 a8 a9 a10 a11 => by
        have hf := h.freeze (vs ++ vs2)
        have hlive : fapp L (Go.Proofs.YtalnnbokmpppjaaAb.freeze L (vs ++ vs2)) d0 = some (.row g0 r.1 r.2.1 r.2.2.1 r.2.2.2.1 r.2.2.2.2) := by rw [freeze_look, hL]; simp only; rw [if_neg hd0]
        have hex := Rh.put_ext lc' (rho_new h d)
        have hwf := hf.wr d0 _ lc hlive f1 hρ
        refine ⟨_, _, hex, put_new, addI_ext ρ L H I (vs ++ vs2), a11, ?_, fun x hx => ?_, addI_names fun e he g fr tr ik esz c hL => flook_cons_some (flook_cons_some (flook_freeze he hL)), fun d' fb lc2 e1 e2 => ?_⟩
        rotate_left 2
        · rw [fapp_cons, fapp_cons] at e1
          replace e1 : (if d' = d then _ else if d' = d0 then _ else _) = some fb := e1
          by_cases x : d' = d
          · rw [if_pos x] at e1; cases e1; subst x
            rw [show FB.g (.row n false true ik esz (c ++ ys)) = n from rfl, Rh.put_at] at e2; cases e2
            rcases a7 with e | e
            · exact .inl (by rw [e]; exact under_self q)
            · exact .inr ⟨d0, _, lc, hL, hρ, e.symm⟩
          · rw [if_neg x] at e1
            by_cases y : d' = d0
            · rw [if_pos y] at e1; cases e1
            · rw [if_neg y] at e1
              exact .inr (names_old hf hex (fun _ _ e => freeze_live e) e1 e2)
        · rw [fapp_cons, fapp_cons]
          have hIq : addI ρ L H I (vs ++ vs2) q = none := by
            cases hI : addI ρ L H I (vs ++ vs2) q with
            | none => rfl
            | some b' => have := hf.imm _ _ hI; rw [hq] at this; cases this
          refine (hf.dropped d0).add d (.row n false true ik esz (c ++ ys)) hex (Rh.put_gen h.gen (Nat.lt_succ_self n)) (lc := lc') (Rh.put_at _ _ _ _) a8 ⟨a2, a3, a4, a5, a1, a6, (fun e => by cases e), a2'⟩ (fun d' fb' lc2 hd' hL' he' => ?_) (fun mm bm hm => ?_) (fun _ => ?_)
          · have hd0' : d' ≠ d0 := fun e => by rw [e] at hL'; simp at hL'
            rw [if_neg hd0'] at hL'
            obtain ⟨lc3, b3, k1, k2, _⟩ := hf.blk d' fb' hL'
            rw [he'] at k1; cases k1
            have n1 := hne _ _ k2
            have n2 := hf.inj d' d0 fb' _ lc2 lc hL' hlive hd0' he' hρ
            exact ⟨by rcases a7 with e | e <;> rw [e] <;> assumption, a9 _ n1 n2⟩
          · have n1 := hne _ _ (hf.imm _ _ hm)
            have n2 : mm ≠ lc.n := fun e => by rw [e, hwf.1] at hm; cases hm
            rw [a9 _ n1 n2]; exact hf.imm _ _ hm
          · rcases a7 with e | e <;> rw [e]
            · exact ⟨hIq, hW⟩
            · exact hwf
        · rcases a10 x hx with e | e
          · exact .inl (by rw [e]; exact under_self q)
          · refine .inr ⟨⟨d0, _, lc, hL, f1, hρ, e.symm, flook_cons_some (by simp only [flook, if_true]; rfl)⟩, ?_⟩
            simp [olds, oldB]
      have hnq : lc.n ≠ q := hne _ _ hb
      by_cases hop : opn = true
      · obtain ⟨b1, b2, b3⟩ := q1 hop
        have hcl : cap = len := by
          have : cap * esz = len * esz := by rw [f5, ← hB1]; omega
          exact Nat.eq_of_mul_eq_mul_right hz this
        have hsz : b.size = len * esz := by rw [← hB3, b2, hB1, f5]
        have hcs : (b.cells.drop lc.base).take r.2.2.2.2.length = b.cells := by
          rw [b1, List.drop_zero, List.take_of_length_le]
          rw [Blk.size_cells, hsz, f5]; exact Nat.le_refl _
        rw [hcs] at g1 g3
        refine ⟨.sl q 0 (len + m) (len + m) true, [(q, some nb), (lc.n, none)], ?_, ?_⟩
        · simp only
          rw [if_neg (by omega), if_neg e0, if_neg (by omega), if_pos hop]
          rw [if_pos ⟨by rw [ho (.inr hop), b1], hcl.symm⟩, hb, Option.bind_some, if_pos ⟨hsz, hB5.own, hB4.trans f4⟩]
          unfold joinBlk
          rw [g1]; rfl
        · refine fin ⟨q, 0, nb.size, (c ++ ys).length, esz, ik⟩ nb _ _ g2 rfl rfl rfl rfl g4 (CR.of (by show 0 + _ ≤ _; rw [g5]; omega) (by show VFL _ _ _ (List.take _ (List.drop 0 _)); rw [g3, List.drop_zero, List.take_of_length_le (by rw [← hcs, ← hall.1]; exact Nat.le_refl _), ← hcs]; exact hall)) (.inl rfl) ?_ ?_ ?_ ?_
          · rw [app_cons', if_pos rfl]
          · intro x h1 h2; rw [app_cons', if_neg h1, app_one, if_neg h2]
          · intro x hx; simp only [List.mem_cons, List.not_mem_nil, or_false] at hx; rcases hx with rfl | rfl <;> simp
          · exact VF.newref (len + m) esz hz rfl rfl (by show (len + m) * esz ≤ (c ++ ys).length; omega) (len + m) true (Nat.le_refl _) (fun _ => ⟨g5, by show (len + m) * esz = (c ++ ys).length; omega⟩) (fun h => by cases h)
      · have hop' : opn = false := by simpa using hop
        have hq2 := q2 hop'
        simp only
        rw [if_neg (by omega), if_neg e0, if_neg (by omega), if_neg hop]
        by_cases hin : len + m ≤ cap
        · rw [if_pos hin, hb, Option.bind_some]
          have hmul : (len + m) * esz ≤ cap * esz := Nat.mul_le_mul_right _ hin
          rw [Nat.add_mul] at hmul
          have hbs := hB3
          have hkb : KindR ik b := by rw [← f3]; exact hB5
          obtain ⟨b', p1, p2, p3, p4, p5⟩ := put_ok hkb k2 hko (o := lc.base + len * esz) (by rw [k3]; omega)
          rw [ho (.inl (by omega)), Nat.add_zero, p1]
          refine ⟨_, _, rfl, ?_⟩
          refine fin ⟨lc.n, lc.base, b'.size, (c ++ ys).length, esz, ik⟩ b' _ _ p2 rfl rfl rfl rfl (p5.trans (hB4.trans f4)) ?_ (.inr rfl) ?_ ?_ ?_ ?_
          · have hll : l.length = m * esz := by rw [← k2.1, k3]
            refine CR.of (by show lc.base + _ ≤ _; rw [hlall, p4, Nat.add_mul]; omega) ?_
            have e9 : ((b'.cells.drop lc.base).take (c ++ ys).length) = ((b.cells.drop lc.base).take r.2.2.2.2.length) ++ l := by
              rw [p3, hlall, Nat.add_mul]
              unfold over
              rw [← f5, List.append_assoc, List.drop_append_of_le_length (by simp [Blk.size_cells]; omega), List.drop_take, List.take_append, List.take_of_length_le (by simp; omega)]
              congr 1
              · congr 1; omega
              · rw [List.take_append, List.take_of_length_le (by simp [Blk.size_cells]; omega)]
                have : len * esz + m * esz - (List.take (lc.base + len * esz - lc.base) (List.drop lc.base b.cells)).length - l.length = 0 := by simp [Blk.size_cells]; omega
                rw [this]; simp
            rw [e9]; exact hall
          · rw [app_one, if_pos rfl]
          · intro x h1 h2; rw [app_one, if_neg h2]
          · intro x hx; simp only [List.mem_singleton] at hx; subst hx; exact .inr rfl
          · refine .ref (lc := ⟨lc.n, lc.base, b'.size, (c ++ ys).length, esz, ik⟩) (Rh.put_at _ _ _ _) hz (by show 0 + (len + m) * esz ≤ (c ++ ys).length; omega) hin (fun _ => by simp) (fun h => by cases h) (fun _ => ?_)
            show lc.base + 0 + cap * esz ≤ b'.size
            rw [p4]; omega
        · rw [if_neg hin]
          have hold : (if len = 0 then some [] else (some b).bind fun b => b.range o' (len * esz)) = some ((b.cells.drop lc.base).take r.2.2.2.2.length) := by
            by_cases hl0 : len = 0
            · rw [if_pos hl0, ← f5, hl0]; simp
            · rw [if_neg hl0, Option.bind_some, ho (.inl (by omega)), Nat.add_zero]
              unfold Blk.range
              rw [if_pos (by omega), f5]
          rw [hb, hold, Option.bind_some, g1]
          refine ⟨_, _, rfl, ?_⟩
          refine fin ⟨q, 0, nb.size, (c ++ ys).length, esz, ik⟩ nb _ _ g2 rfl rfl rfl rfl g4 (CR.of (by show 0 + _ ≤ _; rw [g5]; omega) (by show VFL _ _ _ (List.take _ (List.drop 0 _)); rw [g3, List.drop_zero, List.take_of_length_le (by rw [← hall.1]; exact Nat.le_refl _)]; exact hall)) (.inl rfl) ?_ ?_ ?_ ?_
          · rw [app_one, if_pos rfl]
          · intro x h1 h2; rw [app_one, if_neg h1]
          · intro x hx; simp only [List.mem_singleton] at hx; subst hx; exact .inl rfl
          · exact VF.newref (len + m) esz hz rfl rfl (by show (len + m) * esz ≤ (c ++ ys).length; omega) (len + m) true (Nat.le_refl _) (fun _ => ⟨g5, by show (len + m) * esz = (c ++ ys).length; omega⟩) (fun h => by cases h)
    · cases hv2
end
end Go.Proofs.YtalnnbokmpppjaaAb
