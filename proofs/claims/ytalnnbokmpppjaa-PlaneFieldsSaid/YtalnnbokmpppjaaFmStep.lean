/- Each operation of the functional machine is the abstract machine's. -/
import Derived.Test.YtalnnbokmpppjaaFmCal3
namespace Go.Proofs.YtalnnbokmpppjaaAb
open Go
set_option linter.unusedVariables false
set_option linter.unusedSimpArgs false
theorem fBytes_map : ∀ (s : List UInt8), fBytes (s.map fun b => FV.int .u8 b.toNat) = some s
  | [] => rfl
  | a :: s => by simp [fBytes, fBytes_map s]
section
variable {W : Nm → Prop} {ρ : Rh} {I : Im} {L : FHeap} {H : Heap} {n : Nat} {q : Nm}
theorem dry_ok (h : Rl W ρ I L H n) {o : Option FV} {v : FV} {fu : FUpd} (hv : dryF o = some (v, fu)) {x : Option V} (k : ∀ v, o = some v → ∃ v', x = some v' ∧ VF ρ I v v') : ∃ v' u, (x.map fun v => (v, ([] : Upd))) = some (v', u) ∧ Dn W q ρ I L H n v fu v' u := by
  obtain ⟨h1, rfl⟩ := dryF_some hv
  obtain ⟨v', h2, h3⟩ := k v h1
  exact ⟨v', [], by rw [h2]; rfl, Dn.dry h h3⟩
theorem fIter_new (h : Rl W ρ I L H n) (hq : H q = none) (hW : W q) (d : Nat) (s : List UInt8) : Dn W q ρ I L H n (.ptr d n 0) [(d, some (.iter n s 0))] (.ptr q 0) [(q, some (.iter s 0))] := by
  have hex := Rh.put_ext (⟨q, 0, 0, 0, 0, none⟩ : Lc) (rho_new h d)
  have hne : ∀ m c, H m = some c → m ≠ q := fun m c hm e => by rw [e, hq] at hm; cases hm
  refine ⟨_, I, hex, put_new, ExI.refl _, VF.ptr (lc := ⟨q, 0, 0, 0, 0, none⟩) 0 (Rh.put_at _ _ _ _), ?_, fun x hx => ?_, (fun m b h1 h2 => by rw [h2] at h1; cases h1), fun d' fb lc e1 e2 => ?_⟩
  rotate_left 2
  · rw [fapp_cons, fapp_nil] at e1
    replace e1 : (if d' = d then _ else _) = some fb := e1
    by_cases x : d' = d
    · rw [if_pos x] at e1; cases e1; subst x
      rw [show FB.g (.iter n s 0) = n from rfl, Rh.put_at] at e2; cases e2
      exact .inl (under_self q)
    · rw [if_neg x] at e1
      exact .inr (names_old h hex (fun d fb e => ⟨fb, e, rfl⟩) e1 e2)
  · rw [fapp_cons, fapp_nil]
    refine h.add d (.iter n s 0) hex (Rh.put_gen h.gen (Nat.lt_succ_self n)) (lc := ⟨q, 0, 0, 0, 0, none⟩) (Rh.put_at _ _ _ _) (b := .iter s 0) (by rw [app_one, if_pos rfl]) ⟨rfl, rfl⟩ (fun d' fb' lc' hd hL he => ?_) (fun m b' hm => ?_) (fun _ => ⟨?_, hW⟩)
    · obtain ⟨lc2, b2, k1, k2, _⟩ := h.blk d' fb' hL
      rw [he] at k1; cases k1
      exact ⟨hne _ _ k2, by rw [app_one, if_neg (hne _ _ k2)]⟩
    · have := h.imm m b' hm
      rw [app_one, if_neg (hne _ _ this)]; exact this
    · cases hI : I q with
      | none => rfl
      | some b' => have := h.imm _ _ hI; rw [hq] at this; cases this
  · simp only [List.mem_singleton] at hx
    subst hx
    exact .inl (under_self q)
theorem fIter_set (h : Rl W ρ I L H n) {d g : Nat} {s : List UInt8} {p p' : Nat} (hL : L d = some (.iter g s p)) {lc : Lc} (hρ : ρ d g = some lc) (hb : lc.base = 0) {v : FV} {v' : V} (hv : VF ρ I v v') :
    Dn W q ρ I L H n v [(d, some (.iter g s p'))] v' [(lc.n, some (.iter s p'))] := by
  obtain ⟨hw1, hw2⟩ := h.wr d _ lc hL rfl hρ
  have hgn : g < n := h.gen _ _ _ hρ
  refine ⟨ρ, I, ExR.refl _, fun _ _ _ h => .inl h, ExI.refl _, hv, ?_, fun x hx => ?_, (fun m b h1 h2 => by rw [h2] at h1; cases h1), fun d' fb lc2 e1 e2 => ?_⟩
  rotate_left 2
  · rw [fapp_cons, fapp_nil] at e1
    replace e1 : (if d' = d then _ else _) = some fb := e1
    by_cases x : d' = d
    · rw [if_pos x] at e1; cases e1; subst x
      exact .inr ⟨d', _, lc2, hL, e2, rfl⟩
    · rw [if_neg x] at e1
      exact .inr (names_old h (ExR.refl _) (fun d fb e => ⟨fb, e, rfl⟩) e1 e2)
  · rw [fapp_cons, fapp_nil]
    refine h.add d (.iter g s p') (ExR.refl ρ) (fun d g lc k => Nat.lt_succ_of_lt (h.gen d g lc k)) (lc := lc) hρ (b := .iter s p') (by rw [app_one, if_pos rfl]) ⟨rfl, hb⟩ (fun d' fb' lc' hd' hL' he' => ?_) (fun m bm hm => ?_) (fun _ => ⟨hw1, hw2⟩)
    · have hne := h.inj d' d fb' _ lc' lc hL' hL hd' he' hρ
      exact ⟨hne, by rw [app_one, if_neg hne]⟩
    · have hne : m ≠ lc.n := fun e => by rw [e, hw1] at hm; cases hm
      rw [app_one, if_neg hne]; exact h.imm m bm hm
  · simp only [List.mem_singleton] at hx
    subst hx
    refine .inr ⟨⟨d, _, lc, hL, rfl, hρ, rfl, by simp only [flook, if_true]; rfl⟩, ?_⟩
    have : (g == n) = false := by simp; omega
    simp [olds, oldB, this]
theorem fNxt_ok (h : Rl W ρ I L H n) {x : FV} {x' : V} (hx : VF ρ I x x') {v : FV} {fu : FUpd} (hv : fNxt L x = some (v, fu)) {call : CallF} {e : Env} {xx : X} (ex : xx.ev e = x') : ∃ v' u, evI call e H q (.nxt xx) = some (v', u) ∧ Dn W q ρ I L H n v fu v' u := by
  unfold fNxt at hv
  split at hv
  case h_2 => cases hv
  rename_i d g
  split at hv
  case h_2 => cases hv
  rename_i g' s pos hL
  by_cases e1 : g' = g
  case neg => rw [if_neg e1] at hv; cases hv
  rw [if_pos e1] at hv
  subst e1
  obtain ⟨lc, hρ, rfl⟩ := ptr_f hx
  obtain ⟨lc', b, k1, k2, rfl, k4⟩ := h.blk d _ hL
  rw [show FB.g (.iter g' s pos) = g' from rfl, hρ] at k1; cases k1
  simp only [evI, ex, k4, Nat.zero_add, k2, Option.bind_some]
  split at hv <;> cases hv
  · rename_i e2
    rw [if_pos e2]
    exact ⟨_, _, rfl, fIter_set h hL hρ k4 (.tup' (PW.cons (.bool _ _ _) (PW.cons (.int _ _ _ _) (PW.cons (.int _ _ _ _) PW.nil))))⟩
  · rename_i e2
    rw [if_neg e2]
    exact ⟨_, _, rfl, Dn.dry h (.tup' (PW.cons (.bool _ _ _) PW.nil))⟩
theorem fAlloc_ok (h : Rl W ρ I L H n) (hq : H q = none) (hW : W q) {d : Nat} {tr : Bool} {c : List FV} {cs : List V} (hc : VFL (if tr then rh0 else ρ) I c cs) : Dn W q ρ I L H n (.ptr d n 0) [(d, some (.row n false tr none 0 c))] (.ptr q 0) [(q, some (.row cs 0 true))] := by
  have hA : addI ρ L H I [] = I := addI_nil _ _ _ _
  have := Dn.new h hq hW (d := d) (tr := tr) (ik := none) (esz := 0) (vs := []) (b := .row cs 0 true) ⟨_, _, rfl⟩ hc.1.symm rfl rfl (by rw [hA]; exact hc) (v := .ptr d n 0) (v' := .ptr q 0) (VF.ptr (lc := ⟨q, 0, cs.length, c.length, 0, none⟩) 0 (Rh.put_at _ _ _ _))
  simpa [freeze] using this
theorem lst_f {k : Nat} {c : List FV} {x : V} (h : VF ρ I (.lst k c) x) : (k = 0 ∧ c = [] ∧ (x = .nils ∨ ∃ nm o cap opn, x = .sl nm o 0 cap opn)) ∨ ∃ nm o cap opn b, x = .sl nm o k cap opn ∧ I nm = some b ∧ 0 < k ∧ k ≤ cap ∧ CR rh0 I c o b := by
  cases h with
  | lst0 => exact .inl ⟨rfl, rfl, .inl rfl⟩
  | lstE => exact .inl ⟨rfl, rfl, .inr ⟨_, _, _, _, rfl⟩⟩
  | lst hI hn hc hl h ho => exact .inr ⟨_, _, _, _, _, rfl, hI, hn, hc, hl, h⟩
theorem tp_ff {c : List FV} {o : Nat} {x : V} (h : VF ρ I (.tp c o) x) : ∃ nm base b, x = .ptr nm (base + o) ∧ I nm = some b ∧ CR rh0 I c base b := by
  cases h with
  | tp base o hI hl h => exact ⟨_, base, _, rfl, hI, hl, h⟩
theorem VF.tp' {nm : Nm} {base o : Nat} {b : Blk} {c : List FV} (hI : I nm = some b) (h : CR rh0 I c base b) : VF ρ I (.tp c o) (.ptr nm (base + o)) := .tp base o hI h.1 h.2
theorem fop_ok {call : CallF} {fcall : FCallF} (hg : FGood call fcall) (h : Rl W ρ I L H n) (hN : ∀ m, under q m = true → H m = none) (hW : ∀ m, under q m = true → W m) {sg : Sg} {fe : FEnv} {e : Env} {d : Nat} {op : Go.Proofs.YtalnnbokmpppjaaAb.I} (hx : ∀ x ∈ op.xs, VF ρ I (x.fv fe) (x.ev e)) {v : FV} {fu : FUpd}
    (hv : fvI fcall sg fe L d n op = some (v, fu)) : ∃ v' u, evI call e H q op = some (v', u) ∧ Dn W q ρ I L H n v fu v' u := by
  have hq : H q = none := hN q (under_self q)
  have hWq : W q := hW q (under_self q)
  cases op <;> simp only [fvI] at hv <;> simp only [Go.Proofs.YtalnnbokmpppjaaAb.I.xs, List.mem_cons, List.not_mem_nil, or_false, forall_eq_or_imp, forall_eq, List.mem_append] at hx
  case mov x =>
    obtain ⟨h1, rfl⟩ := dryF_some hv; cases h1
    exact ⟨_, _, rfl, Dn.dry h hx⟩
  case pick c a b =>
    obtain ⟨hc, ha, hb⟩ := hx
    obtain ⟨h1, rfl⟩ := dryF_some hv
    unfold fPick at h1
    split at h1
    · rename_i ht
      cases h1
      rw [ht] at hc
      simp only [evI, bool_f hc]
      refine ⟨_, _, rfl, Dn.dry h ?_⟩
      split
      · exact ha
      · exact hb
    · cases h1
  case alloc z =>
    cases hv
    exact ⟨_, _, rfl, fAlloc_ok h hq hWq (VFL.ofS (ρ := ρ) (I := I) z)⟩
  case box x =>
    obtain ⟨c, hc, he⟩ := Option.map_eq_some_iff.1 hv
    cases he
    exact ⟨_, _, rfl, fAlloc_ok h hq hWq (hx.cells hc)⟩
  case bld z ps =>
    obtain ⟨h1, rfl⟩ := dryF_some hv
    obtain ⟨r, hr, rfl⟩ := Option.map_eq_some_iff.1 h1
    obtain ⟨r', k1, k2⟩ := fFill_ok (fParts_ok hx) (VFL.ofS (ρ := ρ) (I := I) z) hr
    exact ⟨.agg r', [], by simp only [evI, k1, Option.map_some], Dn.dry h (.agg' k2)⟩
  case bldS len esz ik z ps =>
    obtain ⟨c, b, k1, k2, k3⟩ := fBldS_ok h hq hWq (fParts_ok hx) hv
    exact ⟨_, _, by simp only [evI, k1, Option.bind_some, k2, Option.map_some], k3⟩
  case load g x =>
    obtain ⟨h1, rfl⟩ := dryF_some hv
    obtain ⟨nm, o, b, v', k1, k2, k3, k4⟩ := fLoad_ok h hx h1
    exact ⟨v', [], by simp only [evI, k1, k2, Option.bind_some, k3, Option.map_some], Dn.dry h k4⟩
  case store sz x y =>
    obtain ⟨nm, o, b, b', k1, k2, k3, k4, k5⟩ := fStore_ok h hx.1 hx.2 hv
    exact ⟨_, _, by simp only [evI, k1, k3, Option.bind_some, k4, Option.map_some]; rw [if_pos k2], k5⟩
  case nilchk x =>
    obtain ⟨h1, rfl⟩ := dryF_some hv
    unfold fNil at h1
    split at h1 <;> cases h1
    · rename_i e1
      rw [e1] at hx
      have hx' := hx
      obtain ⟨lc, _, k2⟩ := ptr_f hx
      refine ⟨X.ev e x, [], by simp only [evI, k2], Dn.dry h hx'⟩
    · rename_i e1
      rw [e1] at hx
      have hx' := hx
      obtain ⟨nm, o, k2⟩ := tp_f hx
      refine ⟨X.ev e x, [], by simp only [evI, k2], Dn.dry h hx'⟩
  case bin op cl x y =>
    exact dry_ok h hv fun v h1 => fBin_ok hx.1 hx.2 h1
  case un op x =>
    refine dry_ok h hv fun v h1 => ?_
    obtain ⟨y, hy, h2⟩ := Option.bind_eq_some_iff.1 h1
    rw [toS_ok hx hy]
    exact sOf_ok h2
  case toInt k x =>
    obtain ⟨h1, rfl⟩ := dryF_some hv
    unfold fInt at h1
    split at h1 <;> cases h1
    rename_i e1
    rw [e1] at hx
    exact ⟨_, _, by simp only [evI, int_f hx], Dn.dry h (.int _ _ _ _)⟩
  case s2b x =>
    obtain ⟨h1, rfl⟩ := dryF_some hv
    split at h1
    · rename_i s e1
      split at h1 <;> cases h1
      rename_i e2
      rw [e1] at hx
      have hne : ∀ m c, H m = some c → m ≠ q := fun m c hm e => by rw [e, hq] at hm; cases hm
      refine ⟨.sl q 0 s.length s.length true, [(q, some (.ints .u8 (s.map fun b => (b.toNat : Int)) false))], by simp only [evI, str_f hx]; rw [if_pos e2], ?_⟩
      refine ⟨ρ, fun m => if m = q then some (.ints .u8 (s.map fun b => (b.toNat : Int)) false) else I m, ExR.refl _, fun _ _ _ h => .inl h, fun m b hm => ?_, .bys s (by simp), ?_, fun x hx => ?_, fun m b h1 h2 => ?_, fun d fb lc a b => .inr ⟨d, fb, lc, a, b, rfl⟩⟩
      · show (if m = q then _ else I m) = _
        rw [if_neg (hne _ _ (h.imm m b hm))]; exact hm
      · rw [fapp_nil]
        refine h.heap (ExR.refl _) (fun d g lc k => Nat.lt_succ_of_lt (h.gen d g lc k)) (fun m b hm => ?_) (fun m b hm => ?_) (fun d' fb lc e1 e2 => ?_) (fun d' fb lc e1 e2 e3 => ?_)
        · show (if m = q then _ else I m) = _
          rw [if_neg (hne _ _ (h.imm m b hm))]; exact hm
        · replace hm : (if m = q then _ else I m) = some b := hm
          rw [app_one]
          split at hm
          · rename_i e3; rw [if_pos e3]; exact hm
          · rename_i e3; rw [if_neg e3]; exact h.imm m b hm
        · obtain ⟨lc2, b2, k1, k2, _⟩ := h.blk _ _ e1
          rw [e2] at k1; cases k1
          rw [app_one, if_neg (hne _ _ k2)]
        · obtain ⟨lc2, b2, k1, k2, _⟩ := h.blk _ _ e1
          rw [e3] at k1; cases k1
          show (if lc.n = q then _ else I lc.n) = none
          rw [if_neg (hne _ _ k2)]
          exact (h.wr _ _ _ e1 e2 e3).1
      · simp only [List.mem_singleton] at hx
        subst hx
        exact .inl (under_self q)
      · replace h1 : (if m = q then _ else I m) = some b := h1
        split at h1
        · rename_i e3; rw [e3]; exact .inl (under_self q)
        · rw [h2] at h1; cases h1
    · cases h1
  case b2s x =>
    obtain ⟨h1, rfl⟩ := dryF_some hv
    unfold fB2s at h1
    split at h1
    · rename_i e1
      cases h1
      rw [e1] at hx
      cases hx' : X.ev e x <;> rw [hx'] at hx <;> cases hx
      · exact ⟨_, _, by simp only [evI, hx'], Dn.dry h (.str _ _ _)⟩
      · exact ⟨_, _, by simp only [evI, hx', if_true], Dn.dry h (.str _ _ _)⟩
    · rename_i s e1
      cases h1
      rw [e1] at hx
      cases hx' : X.ev e x <;> rw [hx'] at hx <;> cases hx
      rename_i nm hI
      have hb := h.imm _ _ hI
      refine ⟨.str s, [], ?_, Dn.dry h (.str _ _ _)⟩
      simp only [evI, hx']
      split
      · rename_i e2; rw [List.length_eq_zero_iff.1 e2]
      · rw [hb, Option.bind_some]
        unfold Blk.range
        rw [if_pos (by simp [Blk.size]), bytes_cells, Option.bind_some]
        have hs := fBytes_map s
        have := fBytes_ok (VFL.strs (ρ := ρ) (I := I) s) hs
        rw [List.drop_zero, List.take_of_length_le (by simp [strCells]), this]; rfl
    · rename_i k c e1
      split at h1
      case isFalse => cases h1
      rename_i e2
      obtain ⟨s, hs, rfl⟩ := Option.map_eq_some_iff.1 h1
      rw [e1] at hx
      rcases lst_f hx with ⟨rfl, rfl, h3⟩ | ⟨nm, o, cap, opn, b, hx', hI, hn, hc, hC⟩
      · cases hs
        refine ⟨.str [], [], ?_, Dn.dry h (.str _ _ _)⟩
        rcases h3 with h3 | ⟨_, _, _, _, h3⟩ <;> simp only [evI, h3, if_true]
      · have hb := h.imm _ _ hI
        refine ⟨.str s, [], ?_, Dn.dry h (.str _ _ _)⟩
        simp only [evI, hx']
        rw [if_neg (by omega), hb, Option.bind_some]
        obtain ⟨l, k1, k2⟩ := hC.range 0 k (by omega)
        rw [Nat.add_zero] at k1
        rw [k1, Option.bind_some]
        rw [List.drop_zero, List.take_of_length_le (by omega)] at k2
        rw [fBytes_ok k2 hs]; rfl
    · rename_i d' g o k e1
      obtain ⟨r, hr, h2⟩ := Option.bind_eq_some_iff.1 h1
      split at h2
      case isFalse => cases h2
      rename_i e2
      obtain ⟨s, hs, rfl⟩ := Option.map_eq_some_iff.1 h2
      rw [e1] at hx
      obtain ⟨lc, o', cap, opn, hρ, k1, hz, hs', hcap, ho, q1, q2⟩ := ref_f hx
      obtain ⟨b, hb, hB1, hB2, hB3, hB4, hB5, hB6, hB7, hB8⟩ := h.row hr hρ
      refine ⟨.str s, [], ?_, Dn.dry h (.str _ _ _)⟩
      simp only [evI, k1]
      split
      · rename_i e3
        subst e3
        simp only [List.take_zero] at hs
        cases hs; rfl
      · rw [hb, Option.bind_some, ho (.inl (by omega))]
        obtain ⟨l, k2, k3⟩ := (CR.if_ext hB6).range o k e2.2
        rw [k2, Option.bind_some, fBytes_ok k3 hs]; rfl
    · cases h1
  case i2s x =>
    obtain ⟨h1, rfl⟩ := dryF_some hv
    split at h1 <;> cases h1
    rename_i e1
    rw [e1] at hx
    exact ⟨_, _, by simp only [evI, int_f hx], Dn.dry h (.str _ _ _)⟩
  case idn x =>
    obtain ⟨h1, rfl⟩ := dryF_some hv
    split at h1 <;> cases h1
    rename_i e1
    rw [e1] at hx
    exact ⟨_, _, by simp only [evI, str_f hx], Dn.dry h (.str _ _ _)⟩
  case mk esz eb ik z l c =>
    obtain ⟨k1, k2, b, a1, a2, a3, a4, a5, a6⟩ := fMk_ok h hq hWq hx.1 hx.2 hv
    exact ⟨_, _, by simp only [evI, a1, a2, Option.bind_some, a5]; rw [if_pos ⟨a3, a4⟩]; rfl, a6⟩
  case subS x lo hi =>
    obtain ⟨h1, rfl⟩ := dryF_some hv
    unfold fSubS at h1
    split at h1
    · rename_i s _ _ e1
      obtain ⟨hh, k1, h2⟩ := Option.bind_eq_some_iff.1 h1
      obtain ⟨l, k2, h3⟩ := Option.bind_eq_some_iff.1 h2
      split at h3 <;> cases h3
      rename_i e2
      obtain ⟨hx1, hx2⟩ := hx
      rw [e1] at hx1
      exact ⟨_, _, by simp only [evI, str_f hx1, fBnd_ok (fun y hy => hx2 y (.inr hy)) k1, fBnd_ok (fun y hy => hx2 y (.inl hy)) k2, Option.bind_some]; rw [if_pos e2], Dn.dry h (.str _ _ _)⟩
    · cases h1
  case subL esz x lo hi mx =>
    obtain ⟨h1, rfl⟩ := dryF_some hv
    obtain ⟨hx1, hx2⟩ := hx
    obtain ⟨v', k1, k2⟩ := fSubL_ok (q := q) h hx1 (fun y hy => hx2 y (.inl (.inl hy))) (fun y hy => hx2 y (.inl (.inr hy))) (fun y hy => hx2 y (.inr hy)) h1 (call := call)
    exact ⟨v', [], k1, Dn.dry h k2⟩
  case subA => cases hv
  case fadr off x =>
    obtain ⟨h1, rfl⟩ := dryF_some hv
    unfold fFadr at h1
    split at h1 <;> cases h1
    · rename_i e1
      rw [e1] at hx
      obtain ⟨lc, k1, k2⟩ := ptr_f hx
      exact ⟨.ptr lc.n (lc.base + (_ + off)), [], by simp only [evI, k2, Nat.add_assoc], Dn.dry h (.ptr _ k1)⟩
    · rename_i c o e1
      rw [e1] at hx
      obtain ⟨nm, base, b, k1, k2, k3⟩ := tp_ff hx
      exact ⟨.ptr nm (base + (o + off)), [], by simp only [evI, k1, Nat.add_assoc], Dn.dry h (.tp' k2 k3)⟩
  case fld off g x =>
    refine dry_ok h hv (x := match X.ev e x with | .agg c => partV c off g | _ => none) ?_ |> fun ⟨v', u, k1, k2⟩ => ⟨v', u, ?_, k2⟩
    · intro v h1
      unfold fFld at h1
      split at h1
      · rename_i e1
        rw [e1] at hx
        obtain ⟨m, k1, k2⟩ := agg_f hx
        rw [k1]
        exact fAgg_ok k2 h1
      · cases h1
    · rw [← k1]
      simp only [evI]
      cases X.ev e x <;> rfl
  case iadrL esz x i =>
    obtain ⟨h1, rfl⟩ := dryF_some hv
    obtain ⟨hx1, hx2⟩ := hx
    unfold fIadrL at h1
    split at h1
    · rename_i k c e1
      obtain ⟨j, k1, h2⟩ := Option.bind_eq_some_iff.1 h1
      split at h2 <;> cases h2
      rename_i e2
      rw [e1] at hx1
      rcases lst_f hx1 with ⟨rfl, rfl, h3⟩ | ⟨nm, o, cap, opn, b, hx', hI, hn, hc, hC⟩
      · omega
      · exact ⟨.ptr nm (o + j * esz), [], by simp only [evI, hx', fNat_ok hx2 k1, Option.bind_some]; rw [if_pos e2], Dn.dry h (.tp' hI hC)⟩
    · rename_i s e1
      obtain ⟨j, k1, h2⟩ := Option.bind_eq_some_iff.1 h1
      split at h2 <;> cases h2
      rename_i e2
      rw [e1] at hx1
      cases hx' : X.ev e x <;> rw [hx'] at hx1 <;> cases hx1
      rename_i nm hI
      refine ⟨_, _, by simp only [evI, hx', fNat_ok hx2 k1, Option.bind_some]; rw [if_pos e2.1], Dn.dry h ?_⟩
      have := VFL.strs (ρ := rh0) (I := I) s
      rw [← bytes_cells] at this
      rw [e2.2, Nat.mul_one]
      refine .tp 0 j hI (by simp [Blk.size]) (fun i v v' a b => this.2 i v v' a (by rwa [Nat.zero_add] at b))
    · rename_i d' g o k e1
      obtain ⟨j, k1, h2⟩ := Option.bind_eq_some_iff.1 h1
      split at h2 <;> cases h2
      rename_i e2
      rw [e1] at hx1
      obtain ⟨lc, o', cap, opn, hρ, k3, hz, hs', hcap, ho, q1, q2⟩ := ref_f hx1
      exact ⟨_, _, by simp only [evI, k3, fNat_ok hx2 k1, Option.bind_some]; rw [if_pos e2], Dn.dry h (by rw [ho (.inl (by omega)), Nat.add_assoc]; exact .ptr _ hρ)⟩
    · cases h1
  case iadrA k esz x i =>
    obtain ⟨h1, rfl⟩ := dryF_some hv
    obtain ⟨hx1, hx2⟩ := hx
    unfold fIadrA at h1
    split at h1
    · rename_i e1
      obtain ⟨j, k1, h2⟩ := Option.bind_eq_some_iff.1 h1
      split at h2 <;> cases h2
      rename_i e2
      rw [e1] at hx1
      obtain ⟨lc, k3, k4⟩ := ptr_f hx1
      exact ⟨_, _, by simp only [evI, k4, fNat_ok hx2 k1, Option.bind_some]; rw [if_pos e2], Dn.dry h (by rw [Nat.add_assoc]; exact .ptr _ k3)⟩
    · rename_i e1
      obtain ⟨j, k1, h2⟩ := Option.bind_eq_some_iff.1 h1
      split at h2 <;> cases h2
      rename_i e2
      rw [e1] at hx1
      obtain ⟨nm, base, b, k2, k3, k4⟩ := tp_ff hx1
      exact ⟨.ptr nm (base + (_ + j * esz)), [], by simp only [evI, k2, fNat_ok hx2 k1, Option.bind_some]; rw [if_pos e2, Nat.add_assoc], Dn.dry h (.tp' k3 k4)⟩
    · cases h1
  case idxS x i =>
    obtain ⟨h1, rfl⟩ := dryF_some hv
    obtain ⟨hx1, hx2⟩ := hx
    unfold fIdxS at h1
    split at h1
    · rename_i e1
      obtain ⟨j, k1, h2⟩ := Option.bind_eq_some_iff.1 h1
      obtain ⟨b, hb, rfl⟩ := Option.map_eq_some_iff.1 h2
      rw [e1] at hx1
      exact ⟨_, _, by simp only [evI, str_f hx1, fNat_ok hx2 k1, Option.bind_some, hb, Option.map_some], Dn.dry h (.int _ _ _ _)⟩
    · cases h1
  case idxA k esz g x i =>
    obtain ⟨h1, rfl⟩ := dryF_some hv
    obtain ⟨hx1, hx2⟩ := hx
    unfold fIdxA at h1
    split at h1
    · rename_i e1
      obtain ⟨j, k1, h2⟩ := Option.bind_eq_some_iff.1 h1
      split at h2
      case isFalse => cases h2
      rename_i e2
      rw [e1] at hx1
      obtain ⟨m, k3, k4⟩ := agg_f hx1
      obtain ⟨v', k5, k6⟩ := fAgg_ok k4 h2
      exact ⟨v', [], by simp only [evI, k3, fNat_ok hx2 k1, Option.bind_some]; rw [if_pos e2, k5]; rfl, Dn.dry h k6⟩
    · cases h1
  case ext x i =>
    obtain ⟨h1, rfl⟩ := dryF_some hv
    unfold fExt at h1
    split at h1
    · rename_i e1
      rw [e1] at hx
      obtain ⟨m, k1, k2⟩ := tup_f hx
      obtain ⟨v', k3, k4⟩ := k2.get h1
      exact ⟨v', [], by simp only [evI, k1, k3, Option.map_some], Dn.dry h k4⟩
    · cases h1
  case clo f fs cs =>
    obtain ⟨h1, rfl⟩ := dryF_some hv; cases h1
    exact ⟨_, _, rfl, Dn.dry h (.clo' (fArgs_ok fun y hy => hx y (.inl hy)) (fArgs_ok fun y hy => hx y (.inr hy)))⟩
  case ifc t x =>
    obtain ⟨h1, rfl⟩ := dryF_some hv; cases h1
    exact ⟨_, _, rfl, Dn.dry h (.ifc t hx)⟩
  case lenS x =>
    obtain ⟨h1, rfl⟩ := dryF_some hv
    unfold fLenS at h1
    split at h1 <;> cases h1
    rename_i e1
    rw [e1] at hx
    exact ⟨_, _, by simp only [evI, str_f hx], Dn.dry h (.int _ _ _ _)⟩
  case lenL x =>
    obtain ⟨h1, rfl⟩ := dryF_some hv
    have hl : ∃ k : Nat, lenF (X.fv fe x) = some k ∧ v = .int .i64 k ∧ ∀ s, X.fv fe x ≠ .str s := by
      unfold fLenL at h1
      split at h1 <;> cases h1 <;> rename_i e1 <;> rw [e1] <;> exact ⟨_, rfl, rfl, fun s e => by cases e⟩
    obtain ⟨k, h2, rfl, h3⟩ := hl
    have h4 := lenF_ok hx h2
    refine ⟨.int .i64 k, [], ?_, Dn.dry h (.int _ _ _ _)⟩
    simp only [evI]
    cases hx' : X.ev e x <;> rw [hx'] at h4 <;> simp only [lenV, reduceCtorEq, Option.some.injEq] at h4
    · rw [hx'] at hx
      cases hf : X.fv fe x <;> rw [hf] at hx h2 h3 <;> simp only [lenF, reduceCtorEq] at h2 <;> first | exact absurd rfl (h3 _) | cases hx
    · subst h4; rfl
    · subst h4; rfl
  case lenK k =>
    obtain ⟨h1, rfl⟩ := dryF_some hv; cases h1
    exact ⟨_, _, rfl, Dn.dry h (.int _ _ _ _)⟩
  case mm b xs =>
    obtain ⟨h1, rfl⟩ := dryF_some hv
    cases xs with
    | nil => cases h1
    | cons x xs =>
      obtain ⟨v', k1, k2⟩ := fMmAll_ok (fArgs_ok fun y hy => hx y (List.mem_cons_of_mem _ hy)) (hx x (by simp)) h1
      exact ⟨v', [], by simp only [evI, k1, Option.map_some], Dn.dry h k2⟩
  case app esz eb ik x y => exact fApp_ok h hq hWq hx.1 hx.2 hv
  case copy esz x y => exact fCopy_ok h hx.1 hx.2 hv rfl rfl
  case call f xs => exact fCall_ok hg h hN hW (fArgs_ok hx) hv
  case callv x xs =>
    obtain ⟨hx1, hx2⟩ := hx
    split at hv
    · rename_i f fs cs e1
      rw [e1] at hx1
      obtain ⟨a, b, k1, k2, k3⟩ := clo_f hx1
      obtain ⟨v', u, h1, h2⟩ := fCall_ok hg h hN hW ((k2.append (fArgs_ok hx2)).append k3) hv
      exact ⟨v', u, by simp only [evI, k1]; exact h1, h2⟩
    · cases hv
  case rng x =>
    split at hv <;> cases hv
    rename_i e1
    rw [e1] at hx
    exact ⟨_, _, by simp only [evI, str_f hx], fIter_new h hq hWq d _⟩
  case nxt x => exact fNxt_ok h hx hv rfl
  case bad => cases hv
end
end Go.Proofs.YtalnnbokmpppjaaAb
