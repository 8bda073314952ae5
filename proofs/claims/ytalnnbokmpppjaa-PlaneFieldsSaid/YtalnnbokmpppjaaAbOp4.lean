/- Slicing. -/
import Derived.Test.YtalnnbokmpppjaaAbOp3
import Derived.Laws.Slices
namespace Go.Proofs.YtalnnbokmpppjaaAb
open Go Go.RowKit
set_option linter.unusedVariables false
set_option linter.unusedSimpArgs false

section
variable {P : Program} {res : Nat → Option Nat} {nt : Nat} {o : Oper} {e : Env} {a : Act} {w : World} {B0 : Nat} {w0 : World} {ρ : Rho} {H : Heap} {p : Nm} {c : CallF} {v : V} {u : Upd}

def BR (x : Option Value) (d n : Nat) : Prop := match x with | none => n = d | some v => ∃ kd i, v = .int kd i ∧ 0 ≤ i ∧ i.toNat = n
theorem bnd_R (hE : EnvR ρ nt e a) {x : Option Operand} {x' : Option X} (h : cXo nt x = some x') {d n : Nat} (hb : bndOf e x' d = some n) : BR (x.map a.eval) d n ∧ x'.isSome = x.isSome := by
  cases x with
  | none => cases h; cases hb; exact ⟨rfl, rfl⟩
  | some x =>
    obtain ⟨y, hy, rfl⟩ := Option.map_eq_some_iff.1 h
    exact ⟨nat_of hb (VR.opd hE hy), rfl⟩
theorem run_bounds {isSlice : Bool} {len cap l h m : Nat} {lo hi mx : Option Value} (hm : BR mx cap m) (hh : BR hi len h) (hl : BR lo 0 l) (hmm : mx.isSome = true → hi.isSome = true) (h1 : l ≤ h) (h2 : h ≤ m) (h3 : m ≤ cap) :
    (Instr.sliceBounds isSlice len cap lo hi mx).run P w = .ok (l, h, m) w := by
  have sb : ∀ kd i y code, 0 ≤ i → i.toNat ≤ y → (Instr.sliceBound (.int kd i) y code).run P w = .ok i.toNat w := fun kd i y code h0 h1 => run_sliceBound w kd i y code h0 (by omega)
  unfold Instr.sliceBounds
  cases mx with
  | none =>
    simp only [BR] at hm; subst hm
    cases hi with
    | none =>
      simp only [BR] at hh; subst hh
      cases lo with
      | none => simp only [BR] at hl; subst hl; simp
      | some lv =>
        obtain ⟨kl, il, rfl, hl0, rfl⟩ := hl
        simp [sb kl il _ _ hl0 h1]
    | some hv =>
      obtain ⟨kh, ih, rfl, hh0, rfl⟩ := hh
      cases lo with
      | none => simp only [BR] at hl; subst hl; simp [sb kh ih _ _ hh0 h2]
      | some lv =>
        obtain ⟨kl, il, rfl, hl0, rfl⟩ := hl
        simp [sb kh ih _ _ hh0 h2, sb kl il _ _ hl0 h1]
  | some mv =>
    obtain ⟨km, im, rfl, hm0, rfl⟩ := hm
    cases hi with
    | none => exact absurd (hmm rfl) (by simp)
    | some hv =>
      obtain ⟨kh, ih, rfl, hh0, rfl⟩ := hh
      cases lo with
      | none => simp only [BR] at hl; subst hl; simp [sb km im _ _ hm0 h3, sb kh ih _ _ hh0 h2]
      | some lv =>
        obtain ⟨kl, il, rfl, hl0, rfl⟩ := hl
        simp [sb km im _ _ hm0 h3, sb kh ih _ _ hh0 h2, sb kl il _ _ hl0 h1]
theorem exec_slice {t : TypeId} {x : Operand} {lo hi mx : Option Operand} (hop : o.op = .slice t x lo hi mx) {v' : Value} (h : (Instr.sliceAt t (a.eval x) (lo.map a.eval) (hi.map a.eval) (mx.map a.eval)).run P w = .ok v' w) : (execOp a.eval o).run P w = .ok (.value v') w := by
  unfold execOp; rw [hop]; simp [h]
theorem extract_str (s : List UInt8) (l h : Nat) : (⟨s.toArray⟩ : ByteArray).extract l h = ⟨((s.take h).drop l).toArray⟩ := by
  apply ByteArray.ext
  apply Array.ext'
  simp [ByteArray.data_extract, List.extract_eq_take_drop, List.drop_take]
theorem sim_subS (hE : EnvR ρ nt e a) (hS : Sim B0 w0 ρ H w) {t : TypeId} {x : Operand} {lo hi : Option Operand} (hop : o.op = .slice t x lo hi none) {x' : X} {lo' hi' : Option X} (hx : cX nt x = some x') (hlo : cXo nt lo = some lo') (hhi : cXo nt hi = some hi') (hu : P.underlying t = some .string)
    (he : evI c e H p (.subS x' lo' hi') = some (v, u)) : Done P o a w B0 w0 ρ H p v u := by
  simp only [evI] at he
  split at he
  · rename_i s e1
    obtain ⟨h, hh, he⟩ := Option.bind_eq_some_iff.1 he
    obtain ⟨l, hl, he⟩ := Option.bind_eq_some_iff.1 he
    by_cases hc : l ≤ h ∧ h ≤ s.length
    case neg => rw [if_neg hc] at he; cases he
    rw [if_pos hc] at he
    cases he
    have h1 := VR.opd hE hx
    rw [e1] at h1
    refine Done.dry hS (exec_slice hop (v' := .string ⟨((s.take h).drop l).toArray⟩) ?_) (.str _)
    have hb := run_bounds (P := P) (w := w) (isSlice := false) (len := s.length) (cap := s.length) (l := l) (h := h) (m := s.length) (mx := none) rfl (bnd_R hE hhi hh).1 (bnd_R hE hlo hl).1 (by simp) hc.1 hc.2 (Nat.le_refl _)
    have hb2 := hb
    rw [← bsize s] at hb2
    simp only [Instr.sliceAt, Sem.run_bind, run_underlying hu, Result.andThen_ok, str_of h1, Instr.slice, Option.map_none, Option.isSome_none, Bool.false_eq_true, if_false, hb2, extract_str]
    rfl
  · cases he
theorem sizeP_info {t : TypeId} {sz : Nat} (h : sizeP P t = some sz) : ∃ i, P.info? t = some i ∧ i.size = sz ∧ sz ≠ 0 := by
  unfold sizeP at h
  obtain ⟨i, hi, h⟩ := Option.bind_eq_some_iff.1 h
  split at h <;> cases h
  rename_i hz
  exact ⟨i, hi, rfl, hz⟩
theorem sim_subA (hE : EnvR ρ nt e a) (hS : Sim B0 w0 ρ H w) {t et : TypeId} {n : Nat} {x : Operand} {lo hi mx : Option Operand} (hop : o.op = .slice t x lo hi mx) {x' : X} {lo' hi' mx' : Option X} (hx : cX nt x = some x') (hlo : cXo nt lo = some lo') (hhi : cXo nt hi = some hi') (hmx : cXo nt mx = some mx')
    (hu : P.underlying t = some (.array n et)) {sz : Nat} (hsz : sizeP P et = some sz) (hmm : mx'.isSome = true → hi'.isSome = true)
    (he : evI c e H p (.subA n sz x' lo' hi' mx') = some (v, u)) : Done P o a w B0 w0 ρ H p v u := by
  simp only [evI] at he
  split at he
  · rename_i b off e1
    obtain ⟨m, hm, he⟩ := Option.bind_eq_some_iff.1 he
    obtain ⟨h, hh, he⟩ := Option.bind_eq_some_iff.1 he
    obtain ⟨l, hl, he⟩ := Option.bind_eq_some_iff.1 he
    by_cases hc : l ≤ h ∧ h ≤ m ∧ m ≤ n
    case neg => rw [if_neg hc] at he; cases he
    rw [if_pos hc] at he
    cases he
    have h1 := VR.opd hE hx
    rw [e1] at h1
    obtain ⟨lc, hlc, hx'⟩ := ptr_of h1
    obtain ⟨i, hi', hsz', hz⟩ := sizeP_info hsz
    obtain ⟨bm, bm2⟩ := bnd_R hE hmx hm
    obtain ⟨bh, bh2⟩ := bnd_R hE hhi hh
    obtain ⟨bl, _⟩ := bnd_R hE hlo hl
    have hb := run_bounds (P := P) (w := w) (isSlice := false) bm bh bl (by simpa [← bm2, ← bh2] using hmm) hc.1 hc.2.1 hc.2.2
    refine Done.dry hS (exec_slice hop (v' := .slice (some ⟨lc.blk, lc.off + (if m = l then off else off + l * sz), none⟩) (h - l) (m - l)) ?_) (.sl _ _ _ _ _ hlc (by omega) (Nat.le_refl _) (fun _ => rfl) (fun e => by cases e))
    simp only [Instr.sliceAt, Sem.run_bind, run_underlying hu, Result.andThen_ok, hx', Instr.sureAddr, Sem.run_pure, hb, run_sizeOf' hi', hsz', Addr.add_lit]
    split
    · rfl
    · simp only [Nat.add_assoc]
  · cases he
theorem sim_subL (hE : EnvR ρ nt e a) (hS : Sim B0 w0 ρ H w) {t et : TypeId} {x : Operand} {lo hi mx : Option Operand} (hop : o.op = .slice t x lo hi mx) {x' : X} {lo' hi' mx' : Option X} (hx : cX nt x = some x') (hlo : cXo nt lo = some lo') (hhi : cXo nt hi = some hi') (hmx : cXo nt mx = some mx')
    (hu : P.underlying t = some (.slice et)) {sz : Nat} (hsz : sizeP P et = some sz) (hmm : mx'.isSome = true → hi'.isSome = true)
    (he : evI c e H p (.subL sz x' lo' hi' mx') = some (v, u)) : Done P o a w B0 w0 ρ H p v u := by
  obtain ⟨i, hi', hsz', hz⟩ := sizeP_info hsz
  have h1 := VR.opd hE hx
  have go : ∀ (addr : Option Addr) (len cap l h m : Nat), a.eval x = .slice addr len cap → BR (mx.map a.eval) cap m → BR (hi.map a.eval) len h → BR (lo.map a.eval) 0 l → ((mx.map a.eval).isSome = true → (hi.map a.eval).isSome = true) → l ≤ h → h ≤ m → m ≤ cap →
      (execOp a.eval o).run P w = .ok (.value (.slice (if m = l then addr else addr.map (·.add (l * sz))) (h - l) (m - l))) w := fun addr len cap l h m hx' b1 b2 b3 b4 b5 b6 b7 => by
    refine exec_slice hop ?_
    have hb := run_bounds (P := P) (w := w) (isSlice := true) b1 b2 b3 b4 b5 b6 b7
    simp only [Instr.sliceAt, Sem.run_bind, run_underlying hu, Result.andThen_ok, hx', Instr.slice, hb, run_sizeOf' hi', hsz', Sem.run_pure]
  simp only [evI] at he
  split at he
  · rename_i e1
    rw [e1] at h1
    obtain ⟨h, hh, he⟩ := Option.bind_eq_some_iff.1 he
    obtain ⟨l, hl, he⟩ := Option.bind_eq_some_iff.1 he
    obtain ⟨m, hm, he⟩ := Option.bind_eq_some_iff.1 he
    by_cases hc : l = 0 ∧ h = 0 ∧ m = 0
    case neg => rw [if_neg hc] at he; cases he
    rw [if_pos hc] at he
    cases he
    obtain ⟨rfl, rfl, rfl⟩ := hc
    obtain ⟨bm, bm2⟩ := bnd_R hE hmx hm
    obtain ⟨bh, bh2⟩ := bnd_R hE hhi hh
    obtain ⟨bl, _⟩ := bnd_R hE hlo hl
    refine Done.dry hS (go none 0 0 0 0 0 (nils_of h1) bm bh bl (by simpa [← bm2, ← bh2] using hmm) (Nat.le_refl _) (Nat.le_refl _) (Nat.le_refl _)) .nils
  · rename_i n off len cap opn e1
    rw [e1] at h1
    obtain ⟨m, hm, he⟩ := Option.bind_eq_some_iff.1 he
    obtain ⟨h, hh, he⟩ := Option.bind_eq_some_iff.1 he
    obtain ⟨l, hl, he⟩ := Option.bind_eq_some_iff.1 he
    obtain ⟨bm, bm2⟩ := bnd_R hE hmx hm
    obtain ⟨bh, bh2⟩ := bnd_R hE hhi hh
    obtain ⟨bl, _⟩ := bnd_R hE hlo hl
    have hmm' : (mx.map a.eval).isSome = true → (hi.map a.eval).isSome = true := by simpa [← bm2, ← bh2] using hmm
    obtain ⟨lc, cap', ad, hlc, hx', hcc, hee, hoo, hlen, had⟩ := sl_of h1
    by_cases hc : l ≤ h ∧ h ≤ m ∧ m ≤ cap
    case neg => rw [if_pos hc] at he; cases he
    · rw [if_neg (fun hn => hn hc)] at he
      by_cases hopn : opn = true ∧ mx'.isNone = true
      · rw [if_pos hopn] at he
        obtain ⟨ho1, ho2⟩ := hopn
        have hmx0 : mx = none := by
          cases mx with
          | none => rfl
          | some q => rw [Option.isNone_iff_eq_none] at ho2; rw [ho2] at bm2; simp at bm2
        subst hmx0
        simp only [Option.map_none, BR] at bm; subst bm
        have hop2 := hoo ho1
        by_cases hl0 : l = 0
        · rw [if_pos hl0] at he
          subst hl0
          cases he
          have r := go _ len cap' 0 h cap' hx' rfl bh bl (by simp) hc.1 (by omega) (Nat.le_refl _)
          have e2 : (if cap' = 0 then ad else ad.map (·.add (0 * sz))) = ad := by
            split
            · rfl
            · cases ad <;> simp [Addr.add]
          rw [e2] at r
          exact Done.dry hS r (.slg _ _ _ _ _ ad hlc (by omega) (by omega) (fun h => by cases h) (fun _ => by simpa using hop2) (by simpa using had))
        · rw [if_neg hl0] at he
          obtain ⟨b, hb, he⟩ := Option.bind_eq_some_iff.1 he
          by_cases hbo : b.own = true ∧ b.esz = sz
          case neg => rw [if_neg hbo] at he; cases he
          rw [if_pos hbo] at he
          cases he
          obtain ⟨l0, k1, k2⟩ := hS.blk n b hb
          rw [hlc] at k1; cases k1
          have hrow := (k2.row (fun s q eq => by rw [eq] at hbo; simp [Blk.esz] at hbo; omega)).2 hbo.1
          have r := go _ len cap' l h cap' hx' rfl bh bl (by simp) hc.1 (by omega) (Nat.le_refl _)
          refine Done.dry hS r (.slg _ _ _ _ _ _ hlc (by omega) (by omega) (fun h => by cases h) (fun _ => ?_) (fun hne => ?_))
          · have : lc.esz = sz := hrow.2.1.trans hbo.2
            rw [this] at hop2 ⊢
            have e3 : l * sz + (cap' - l) * sz = cap' * sz := by rw [← Nat.add_mul]; congr 1; omega
            omega
          · rw [if_neg (by omega), had (by omega)]
            simp only [Option.map_some, Addr.add_lit, Nat.add_assoc]
      · rw [if_neg hopn] at he
        cases he
        -- the bound m is exact
        have hmr : BR (mx.map a.eval) cap' m := by
          cases mx with
          | none =>
            have : opn = false := by
              cases hopn' : opn
              · rfl
              · exact absurd ⟨hopn', by rw [Option.isNone_iff_eq_none]; cases mx' with | none => rfl | some q => simp at bm2⟩ hopn
            rw [hee this]; exact bm
          | some q => exact bm
        have r := go _ len cap' l h m hx' hmr bh bl hmm' hc.1 hc.2.1 (by omega)
        have hlm : h - l ≤ m - l := by omega
        by_cases hml : m = l
        · rw [if_pos hml] at r
          rw [if_pos hml]
          exact Done.dry hS r (.slg _ _ _ _ _ ad hlc hlm (Nat.le_refl _) (fun _ => rfl) (fun h => by cases h) (fun h => by omega))
        · rw [if_neg hml, had (by omega)] at r
          rw [if_neg hml]
          simp only [Option.map_some, Addr.add_lit, Nat.add_assoc] at r
          exact Done.dry hS r (.sl _ _ _ _ _ hlc hlm (Nat.le_refl _) (fun _ => rfl) (fun h => by cases h))
  · cases he
end
end Go.Proofs.YtalnnbokmpppjaaAb
