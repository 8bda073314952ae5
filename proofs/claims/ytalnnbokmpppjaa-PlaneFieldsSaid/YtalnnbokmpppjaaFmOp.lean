/- Operations of the functional machine are the abstract machine's: those that only read. -/
import Derived.Test.YtalnnbokmpppjaaFmTree
namespace Go.Proofs.YtalnnbokmpppjaaAb
open Go
set_option linter.unusedVariables false
set_option linter.unusedSimpArgs false
def Dn (W : Nm → Prop) (q : Nm) (ρ : Rh) (I : Im) (L : FHeap) (H : Heap) (n : Nat) (v : FV) (fu : FUpd) (v' : V) (u : Upd) : Prop :=
  ∃ ρ' I', ExR ρ ρ' ∧ (∀ d g lc, ρ' d g = some lc → ρ d g = some lc ∨ g = n) ∧ ExI I I' ∧ VF ρ' I' v v' ∧ Rl W ρ' I' (fapp L fu) (app H u) (n + 1) ∧
    (∀ x ∈ u, under q x.1 = true ∨ ((∃ d fb lc, L d = some fb ∧ fb.fz = false ∧ ρ d fb.g = some lc ∧ lc.n = x.1 ∧ (flook fu d).isSome = true) ∧ olds n fu = true)) ∧
    (∀ m b, I' m = some b → I m = none → under q m = true ∨ ∃ d fb lc, L d = some fb ∧ ρ d fb.g = some lc ∧ lc.n = m ∧ (flook fu d).isSome = true) ∧
    (∀ d fb lc, fapp L fu d = some fb → ρ' d fb.g = some lc → under q lc.n = true ∨ ∃ d0 fb0 lc0, L d0 = some fb0 ∧ ρ d0 fb0.g = some lc0 ∧ lc0.n = lc.n)
section
variable {W : Nm → Prop} {ρ : Rh} {I : Im} {L : FHeap} {H : Heap} {n : Nat} {q : Nm}
theorem app_nil' (H : Heap) : app H [] = H := rfl
theorem Dn.dry (h : Rl W ρ I L H n) {v : FV} {v' : V} (hv : VF ρ I v v') : Dn W q ρ I L H n v [] v' [] :=
  ⟨ρ, I, ExR.refl _, fun _ _ _ h => .inl h, ExI.refl _, hv, h.le (fun _ _ k => k) (Nat.le_succ n), fun x hx => by simp at hx, (fun m b h1 h2 => by rw [h2] at h1; cases h1), fun d fb lc a b => .inr ⟨d, fb, lc, a, b, rfl⟩⟩
theorem dryF_some {o : Option FV} {v : FV} {fu : FUpd} (h : dryF o = some (v, fu)) : o = some v ∧ fu = [] := by
  unfold dryF at h
  obtain ⟨w, hw, he⟩ := Option.map_eq_some_iff.1 h
  cases he; exact ⟨hw, rfl⟩
theorem fNat_ok {v : FV} {v' : V} (hv : VF ρ I v v') {k : Nat} (h : fNat v = some k) : natOf v' = some k := by
  cases v <;> simp only [fNat, reduceCtorEq] at h
  rw [int_f hv]; exact h
theorem fBnd_ok {fe : FEnv} {e : Env} {x : Option X} (hx : ∀ y ∈ x.toList, VF ρ I (y.fv fe) (y.ev e)) {d k : Nat} (h : fBnd (x.map (X.fv fe)) d = some k) : bndOf e x d = some k := by
  cases x with
  | none => exact h
  | some x => exact fNat_ok (hx x (by simp)) h
theorem fLoad_ok (h : Rl W ρ I L H n) {x : FV} {x' : V} (hx : VF ρ I x x') {g : Option Nat} {v : FV} (hv : fLoad L g x = some v) : ∃ nm o b v', x' = .ptr nm o ∧ H nm = some b ∧ aggLoad b o g = some v' ∧ VF ρ I v v' := by
  cases x <;> simp only [fLoad, reduceCtorEq] at hv
  case ptr d a o =>
    obtain ⟨r, hr, hv⟩ := Option.bind_eq_some_iff.1 hv
    obtain ⟨lc, hρ, rfl⟩ := ptr_f hx
    obtain ⟨b, hb, hB1, hB2, hB3, hB4, hB5, hB6, hB7, hB8⟩ := h.row hr hρ
    obtain ⟨v', h1, h2⟩ := (CR.if_ext hB6).agg hv
    exact ⟨_, _, b, v', rfl, hb, h1, h2⟩
  case tp c o =>
    cases hx with
    | tp base o hI hl hh =>
      obtain ⟨v', h1, h2⟩ := CR.agg (⟨hl, hh⟩ : CR rh0 I c base _) hv
      exact ⟨_, _, _, v', rfl, h.imm _ _ hI, h1, h2.ext (ExR.zero _) (ExI.refl _)⟩
theorem toS_ok {x : FV} {x' : V} (hx : VF ρ I x x') {v : V} (h : x.toS = some v) : x' = v := by
  cases x <;> simp only [FV.toS, reduceCtorEq, Option.some.injEq] at h <;> subst h
  · exact int_f hx
  · exact bool_f hx
  · exact str_f hx
theorem toSL_ok : ∀ {l : List FV} {l' : List V}, VFL ρ I l l' → ∀ {m : List V}, toSL l = some m → l' = m
  | [], l', h, m, hm => by cases hm; exact PW.nil' h
  | v :: l, l', h, m, hm => by
    simp only [toSL] at hm
    obtain ⟨x, hx, hm⟩ := Option.bind_eq_some_iff.1 hm
    obtain ⟨y, hy, rfl⟩ := Option.map_eq_some_iff.1 hm
    obtain ⟨v', l2, rfl, h1, h2⟩ := h.head
    rw [toS_ok h1 hx, toSL_ok h2 hy]
theorem sOf_ok {o : Option V} {v : FV} (h : sOf o = some v) : ∃ w, o = some w ∧ VF ρ I v w := by
  cases o with
  | none => cases h
  | some w => cases h; exact ⟨w, rfl, VF.ofS w⟩
theorem tp_f {c : List FV} {o : Nat} {x : V} (h : VF ρ I (.tp c o) x) : ∃ nm k, x = .ptr nm k := by cases h; exact ⟨_, _, rfl⟩
theorem fEq_ok {cl : List Nat} {x y : FV} {x' y' : V} (hx : VF ρ I x x') (hy : VF ρ I y y') {b : Bool} (h : fEq cl x y = some b) :
    evEq cl x' y' = some b ∧ (∀ op, evBin op cl x' y' = match op with | .eql => (evEq cl x' y').map .bool | .neq => (evEq cl x' y').map fun b => .bool !b | _ => none) := by
  unfold fEq at h
  split at h
  · split at h <;> cases h
    rename_i e; subst e
    rw [bool_f hx, bool_f hy]; exact ⟨rfl, fun op => rfl⟩
  · split at h
    · obtain ⟨xs, h1, h⟩ := Option.bind_eq_some_iff.1 h
      obtain ⟨ys, h2, h⟩ := Option.bind_eq_some_iff.1 h
      obtain ⟨m, rfl, hm⟩ := agg_f hx
      obtain ⟨m2, rfl, hm2⟩ := agg_f hy
      rw [toSL_ok hm h1, toSL_ok hm2 h2]
      exact ⟨h, fun op => rfl⟩
    · cases h
  · split at h <;> cases h
    rename_i e; subst e
    cases hx; cases hy; exact ⟨rfl, fun op => rfl⟩
  · split at h <;> cases h
    rename_i e; subst e
    cases hx; obtain ⟨_, _, rfl⟩ := ptr_f hy; exact ⟨rfl, fun op => rfl⟩
  · split at h <;> cases h
    rename_i e; subst e
    cases hy; obtain ⟨_, _, rfl⟩ := ptr_f hx; exact ⟨rfl, fun op => rfl⟩
  · split at h <;> cases h
    rename_i e; subst e
    cases hx; obtain ⟨_, _, rfl⟩ := tp_f hy; exact ⟨rfl, fun op => rfl⟩
  · split at h <;> cases h
    rename_i e; subst e
    cases hy; obtain ⟨_, _, rfl⟩ := tp_f hx; exact ⟨rfl, fun op => rfl⟩
  · split at h <;> cases h
    rename_i e; subst e
    cases hx; cases hy; exact ⟨rfl, fun op => rfl⟩
  · split at h <;> cases h
    rename_i e; subst e
    cases hx; obtain ⟨_, _, rfl, _⟩ := clo_f hy; exact ⟨rfl, fun op => rfl⟩
  · split at h <;> cases h
    rename_i e; subst e
    cases hy; obtain ⟨_, _, rfl, _⟩ := clo_f hx; exact ⟨rfl, fun op => rfl⟩
  · split at h <;> cases h
    rename_i e; subst e
    cases hx; obtain ⟨_, rfl, _⟩ := ifc_f hy; exact ⟨rfl, fun op => rfl⟩
  · split at h <;> cases h
    rename_i e; subst e
    cases hy; obtain ⟨_, rfl, _⟩ := ifc_f hx; exact ⟨rfl, fun op => rfl⟩
  · cases h
theorem fBin_ok {op : BinOp} {cl : List Nat} {x y : FV} {x' y' : V} (hx : VF ρ I x x') (hy : VF ρ I y y') {v : FV} (h : fBin op cl x y = some v) : ∃ v', evBin op cl x' y' = some v' ∧ VF ρ I v v' := by
  unfold fBin at h
  split at h
  · rw [int_f hx, int_f hy]
    simp only [evBin]
    split at h
    · rename_i e; rw [if_pos e]; exact sOf_ok h
    · rename_i e; rw [if_neg e]
      split at h
      · rename_i e; rw [if_pos e]; exact sOf_ok h
      · cases h
  · rw [str_f hx, str_f hy]
    exact sOf_ok h
  · split at h
    · obtain ⟨b, hb, rfl⟩ := Option.map_eq_some_iff.1 h
      obtain ⟨h1, h2⟩ := fEq_ok hx hy hb
      exact ⟨.bool b, by rw [h2, h1]; rfl, .bool _ _ _⟩
    · obtain ⟨b, hb, rfl⟩ := Option.map_eq_some_iff.1 h
      obtain ⟨h1, h2⟩ := fEq_ok hx hy hb
      exact ⟨.bool !b, by rw [h2, h1]; rfl, .bool _ _ _⟩
    · cases h
theorem fBytes_ok : ∀ {l : List FV} {l' : List V}, VFL ρ I l l' → ∀ {s : List UInt8}, fBytes l = some s → bytesOf l' = some s
  | [], l', h, s, hs => by cases hs; rw [PW.nil' h]; rfl
  | v :: l, l', h, s, hs => by
    obtain ⟨v', l2, rfl, h1, h2⟩ := h.head
    unfold fBytes at hs
    split at hs
    · rename_i e; cases e
    · rename_i e
      cases e
      obtain ⟨y, hy, rfl⟩ := Option.map_eq_some_iff.1 hs
      rw [int_f h1]
      simp only [bytesOf, fBytes_ok h2 hy, Option.map_some]
    · cases hs
theorem fFill_ok : ∀ {ps : List (Nat × Nat × FV)} {ps' : List (Nat × Nat × V)}, PW (fun a b => a.1 = b.1 ∧ a.2.1 = b.2.1 ∧ VF ρ I a.2.2 b.2.2) ps ps' → ∀ {c : List FV} {c' : List V}, VFL ρ I c c' → ∀ {r : List FV}, fFill c ps = some r → ∃ r', fillV c' ps' = some r' ∧ VFL ρ I r r'
  | [], ps', hp, c, c', hc, r, h => by cases h; rw [PW.nil' hp]; exact ⟨c', rfl, hc⟩
  | (off, sz, v) :: ps, ps', hp, c, c', hc, r, h => by
    obtain ⟨⟨o2, s2, v'⟩, l2, rfl, ⟨h1, h2, h3⟩, hp2⟩ := hp.head
    simp only at h1 h2 h3
    subst h1; subst h2
    simp only [fFill] at h
    obtain ⟨w, hw, h⟩ := Option.bind_eq_some_iff.1 h
    split at h
    · rename_i e
      have hcells := h3.cells hw
      obtain ⟨r', h4, h5⟩ := fFill_ok hp2 (hc.over hcells off) h
      refine ⟨r', ?_, h5⟩
      simp only [fillV]
      rw [if_pos ⟨by rw [← hcells.1]; exact e.1, by rw [← hc.1]; exact e.2⟩]; exact h4
    · cases h
theorem fParts_ok {fe : FEnv} {e : Env} {ps : List (Nat × Nat × X)} (hx : ∀ y ∈ ps.map (fun q => q.2.2), VF ρ I (y.fv fe) (y.ev e)) :
    PW (fun a b => a.1 = b.1 ∧ a.2.1 = b.2.1 ∧ VF ρ I a.2.2 b.2.2) (ps.map fun q => (q.1, q.2.1, q.2.2.fv fe)) (ps.map fun q => (q.1, q.2.1, q.2.2.ev e)) := by
  refine PW.map ⟨rfl, fun i v v' a b => ?_⟩
  rw [a] at b; cases b
  exact ⟨rfl, rfl, hx _ (List.mem_map.2 ⟨v, List.mem_of_getElem? a, rfl⟩)⟩
theorem fArgs_ok {fe : FEnv} {e : Env} {xs : List X} (hx : ∀ y ∈ xs, VF ρ I (y.fv fe) (y.ev e)) : VFL ρ I (xs.map (X.fv fe)) (xs.map (X.ev e)) :=
  PW.map ⟨rfl, fun i v v' a b => by rw [a] at b; cases b; exact hx v (List.mem_of_getElem? a)⟩
theorem fMm2_ok {b : Bool} {x y : FV} {x' y' : V} (hx : VF ρ I x x') (hy : VF ρ I y y') {v : FV} (h : fMm2 b x y = some v) : ∃ v', mm2 b x' y' = some v' ∧ VF ρ I v v' := by
  unfold fMm2 at h
  split at h
  · split at h <;> cases h
    rename_i e
    rw [int_f hx, int_f hy]
    exact ⟨_, by simp only [mm2]; rw [if_pos e], .int _ _ _ _⟩
  · cases h
theorem fMmAll_ok {b : Bool} : ∀ {l : List FV} {l' : List V}, VFL ρ I l l' → ∀ {x : FV} {x' : V}, VF ρ I x x' → ∀ {v : FV}, fMmAll b x l = some v → ∃ v', mmAll b x' l' = some v' ∧ VF ρ I v v'
  | [], l', h, x, x', hx, v, hv => by cases hv; rw [PW.nil' h]; exact ⟨x', rfl, hx⟩
  | y :: l, l', h, x, x', hx, v, hv => by
    obtain ⟨y', l2, rfl, h1, h2⟩ := h.head
    simp only [fMmAll] at hv
    obtain ⟨w, hw, hv⟩ := Option.bind_eq_some_iff.1 hv
    obtain ⟨w', h3, h4⟩ := fMm2_ok hx h1 hw
    obtain ⟨v', h5, h6⟩ := fMmAll_ok h2 h4 hv
    exact ⟨v', by simp only [mmAll, h3, Option.bind_some, h5], h6⟩
theorem fAgg_ok {c : List FV} {c' : List V} (h : VFL ρ I c c') {g : Option Nat} {o : Nat} {v : FV} (hv : aggF c o g = some v) : ∃ v', partV c' o g = some v' ∧ VF ρ I v v' := by
  cases g with
  | none => exact h.get hv
  | some k =>
    simp only [aggF] at hv
    split at hv <;> cases hv
    rename_i e
    exact ⟨_, by simp only [partV]; rw [if_pos (by rw [← h.1]; exact e)], .agg' ((h.drop o).take k)⟩
theorem fSubL_ok (h : Rl W ρ I L H n) {fe : FEnv} {e : Env} {esz : Nat} {x : X} {lo hi mx : Option X} (hx : VF ρ I (x.fv fe) (x.ev e)) (hlo : ∀ y ∈ lo.toList, VF ρ I (y.fv fe) (y.ev e)) (hhi : ∀ y ∈ hi.toList, VF ρ I (y.fv fe) (y.ev e)) (hmx : ∀ y ∈ mx.toList, VF ρ I (y.fv fe) (y.ev e))
    {v : FV} (hv : fSubL L esz (x.fv fe) (lo.map (X.fv fe)) (hi.map (X.fv fe)) (mx.map (X.fv fe)) = some v) {call : CallF} : ∃ v', evI call e H q (.subL esz x lo hi mx) = some (v', []) ∧ VF ρ I v v' := by
  simp only [evI]
  generalize X.fv fe x = fx at *
  generalize X.ev e x = ax at *
  have bmx : ∀ d k, fBnd (mx.map (X.fv fe)) d = some k → bndOf e mx d = some k := fun d k => fBnd_ok hmx
  have bhi : ∀ d k, fBnd (hi.map (X.fv fe)) d = some k → bndOf e hi d = some k := fun d k => fBnd_ok hhi
  have blo : ∀ d k, fBnd (lo.map (X.fv fe)) d = some k → bndOf e lo d = some k := fun d k => fBnd_ok hlo
  -- the abstract machine's upper bound
  have cmx : ∀ d m cap, fBnd (mx.map (X.fv fe)) d = some m → d ≤ cap → m ≤ d → ∃ m', bndOf e mx cap = some m' ∧ m ≤ m' ∧ m' ≤ cap ∧ (mx = none → m' = cap ∧ m = d) ∧ (mx.isSome = true → m' = m) := fun d m cap hm hd hle => by
    cases hmx2 : mx with
    | none => rw [hmx2] at hm; cases hm; exact ⟨cap, rfl, hd, Nat.le_refl _, fun _ => ⟨rfl, rfl⟩, (fun h => by cases h)⟩
    | some y => rw [hmx2] at hm; exact ⟨m, fNat_ok (hmx y (by simp [hmx2])) hm, Nat.le_refl _, by omega, (fun h => by cases h), fun _ => rfl⟩
  unfold fSubL at hv
  split at hv
  · obtain ⟨hh, h1, hv1⟩ := Option.bind_eq_some_iff.1 hv
    obtain ⟨l, h2, hv2⟩ := Option.bind_eq_some_iff.1 hv1
    obtain ⟨m, h3, hv3⟩ := Option.bind_eq_some_iff.1 hv2
    clear hv hv1 hv2
    split at hv3 <;> cases hv3
    rename_i ez
    obtain ⟨rfl, rfl, rfl⟩ := ez
    cases hx with
    | emp => exact ⟨.nils, by simp only [bmx _ _ h3, bhi _ _ h1, blo _ _ h2, Option.bind_some]; simp, .emp _ _⟩
    | empS _ _ nm o =>
      refine ⟨.sl nm o 0 0 false, ?_, .empS _ _ _ _⟩
      simp only [bmx _ _ h3, bhi _ _ h1, blo _ _ h2, Option.bind_some]; simp
  · rename_i k c
    obtain ⟨m, h3, hv1⟩ := Option.bind_eq_some_iff.1 hv
    obtain ⟨hh, h1, hv2⟩ := Option.bind_eq_some_iff.1 hv1
    obtain ⟨l, h2, hv3⟩ := Option.bind_eq_some_iff.1 hv2
    clear hv hv1 hv2
    by_cases ez : l ≤ hh ∧ hh ≤ m ∧ m ≤ k ∧ k * esz = c.length
    case neg => rw [if_neg ez] at hv3; cases hv3
    rw [if_pos ez] at hv3
    obtain ⟨e1, e2, e3, e4⟩ := ez
    cases hx with
    | lst0 =>
      have : l = 0 ∧ hh = 0 ∧ m = 0 := by omega
      obtain ⟨rfl, rfl, rfl⟩ := this
      refine ⟨.nils, by simp only [bmx _ _ h3, bhi _ _ h1, blo _ _ h2, Option.bind_some]; simp, ?_⟩
      have hv' : v = .lst 0 [] := by cases hv3; simp
      rw [hv']; exact .lst0 _ _
    | lstE _ _ nm o cap opn =>
      have : l = 0 ∧ hh = 0 ∧ m = 0 := by omega
      obtain ⟨rfl, rfl, rfl⟩ := this
      obtain ⟨m', g1, g2, g3, g4, g5⟩ := cmx 0 0 cap h3 (Nat.zero_le _) (Nat.le_refl _)
      have hv' : v = .lst 0 [] := by cases hv3; simp
      rw [hv']
      simp only [g1, bhi _ _ h1, blo _ _ h2, Option.bind_some]
      rw [if_neg (fun hn => hn ⟨Nat.zero_le _, Nat.zero_le _, g3⟩)]
      split
      · rw [if_pos trivial]; exact ⟨_, rfl, .lstE _ _ _ _ _ _⟩
      · exact ⟨_, rfl, .lstE _ _ _ _ _ _⟩
    | @lst _ _ _ o cap nm _ opn b hI hn hc hl hcell ho =>
      obtain ⟨m', g1, g2, g3, g4, g5⟩ := cmx k m cap h3 hc e3
      simp only [g1, bhi _ _ h1, blo _ _ h2, Option.bind_some]
      rw [if_neg (fun hn => hn ⟨e1, by omega, g3⟩)]
      have hb := h.imm _ _ hI
      have hle1 : hh * esz ≤ k * esz := Nat.mul_le_mul_right _ (by omega)
      have hle2 : l * esz ≤ hh * esz := Nat.mul_le_mul_right _ e1
      have hsub : ((c.take (hh * esz)).drop (l * esz)) = (c.drop (l * esz)).take ((hh - l) * esz) := by
        rw [List.drop_take, Nat.sub_mul]
      have hlen : ((c.drop (l * esz)).take ((hh - l) * esz)).length = (hh - l) * esz := by
        rw [Nat.sub_mul]; simp; omega
      have hez : opn = true → b.esz = esz := fun hop => by
        have := (ho hop).2
        rw [this] at e4
        exact (Nat.eq_of_mul_eq_mul_left hn e4).symm
      have hCR : CR rh0 I c o b := ⟨hl, hcell⟩
      have mk : ∀ o' cap' opn', hh - l ≤ cap' → (hh - l ≠ 0 → o' = o + l * esz) → (opn' = true → opn = true) → VF ρ I (.lst (hh - l) ((c.take (hh * esz)).drop (l * esz))) (.sl nm o' (hh - l) cap' opn') := fun o' cap' opn' a1 a2 a3 => by
        rw [hsub]
        refine lst_of (fun _ => hI) a1 (fun hne => ?_) (fun h0 => by rw [h0]; simp) (fun hop => ⟨(ho (a3 hop)).1, by rw [hlen, hez (a3 hop)]⟩) _
        rw [a2 hne]
        exact hCR.sub _ _ (by rw [Nat.sub_mul]; omega)
      cases hv3
      by_cases hop : opn = true ∧ mx.isNone = true
      · rw [if_pos hop]
        obtain ⟨g6, g7⟩ := g4 (by rw [← Option.isNone_iff_eq_none]; exact hop.2)
        subst g6
        by_cases hl0 : l = 0
        · rw [if_pos hl0]
          subst hl0
          exact ⟨_, rfl, by have := mk o m' true (by omega) (fun _ => by simp) (fun _ => hop.1); simpa using this⟩
        · rw [if_neg hl0, hb, Option.bind_some, if_pos ⟨(ho hop.1).1, hez hop.1⟩]
          exact ⟨_, rfl, mk _ _ true (by omega) (fun _ => rfl) (fun _ => hop.1)⟩
      · rw [if_neg hop]
        refine ⟨_, rfl, mk _ _ false (by omega) (fun hne => ?_) (fun h => by cases h)⟩
        rw [if_neg (by omega)]
  · rename_i d g o k
    obtain ⟨r, hr, hv1⟩ := Option.bind_eq_some_iff.1 hv
    obtain ⟨m, h3, hv2⟩ := Option.bind_eq_some_iff.1 hv1
    obtain ⟨hh, h1, hv3⟩ := Option.bind_eq_some_iff.1 hv2
    obtain ⟨l, h2, hv4⟩ := Option.bind_eq_some_iff.1 hv3
    clear hv hv1 hv2 hv3
    split at hv4 <;> cases hv4
    rename_i ez
    obtain ⟨e1, e3, e4, e5⟩ := ez
    obtain ⟨lc, o', cap, opn, hρ, rfl, hz, hs, hcap, ho, q1, q2⟩ := ref_f hx
    obtain ⟨b, hb, hB1, hB2, hB3, hB4, hB5, hB6, hB7, hB8⟩ := h.row hr hρ
    have hez : lc.esz = esz := by rw [hB2]; exact e1
    rw [hez] at q1 q2 hs hz
    obtain ⟨m', g1, g2, g3, g4, g5⟩ := cmx k m cap h3 hcap e5
    simp only [g1, bhi _ _ h1, blo _ _ h2, Option.bind_some]
    rw [if_neg (fun hn => hn ⟨e3, by omega, g3⟩)]
    have a1 : hh * esz ≤ k * esz := Nat.mul_le_mul_right _ (by omega)
    have a2 : l * esz ≤ hh * esz := Nat.mul_le_mul_right _ e3
    have a3 : (hh - l) * esz = hh * esz - l * esz := Nat.sub_mul _ _ _
    have a4 : m' * esz ≤ cap * esz := Nat.mul_le_mul_right _ g3
    have a5 : (m' - l) * esz = m' * esz - l * esz := Nat.sub_mul _ _ _
    have a6 : l * esz ≤ m' * esz := Nat.mul_le_mul_right _ (by omega)
    have a7 : m * esz ≤ k * esz := Nat.mul_le_mul_right _ e5
    by_cases hop : opn = true ∧ mx.isNone = true
    · rw [if_pos hop]
      obtain ⟨g6, g7⟩ := g4 (by rw [← Option.isNone_iff_eq_none]; exact hop.2)
      subst g6
      obtain ⟨b1, b2, b3⟩ := q1 hop.1
      by_cases hl0 : l = 0
      · rw [if_pos hl0]
        subst hl0
        refine ⟨_, rfl, ?_⟩
        have : VF ρ I (.ref d g (o + 0 * esz) (hh - 0)) (.sl lc.n o' (hh - 0) m' true) := .ref hρ (by rw [hez]; exact hz) (by rw [hez]; omega) (by omega) (fun hne => by rw [ho (.inr hop.1)]; omega) (fun _ => ⟨b1, b2, by rw [hez]; omega⟩) (fun h => by cases h)
        simpa using this
      · rw [if_neg hl0, hb, Option.bind_some, if_pos ⟨hB5.own, by rw [hB4]; exact e1⟩]
        exact ⟨_, rfl, .ref hρ (by rw [hez]; exact hz) (by rw [hez]; omega) (by omega) (fun hne => by rw [ho (.inr hop.1)]; omega) (fun _ => ⟨b1, b2, by rw [hez]; omega⟩) (fun h => by cases h)⟩
    · rw [if_neg hop]
      refine ⟨_, rfl, .ref hρ (by rw [hez]; exact hz) (by rw [hez]; omega) (by omega) (fun hne => ?_) (fun h => by cases h) (fun _ => ?_)⟩
      · have hne : m' - l ≠ 0 := hne.resolve_right (by simp)
        rw [if_neg (by omega), ho (.inl (by omega))]; omega
      · rw [hez]
        by_cases hop2 : opn = true
        · have hsm : mx.isSome = true := by
            cases mx with
            | none => exact absurd ⟨hop2, rfl⟩ hop
            | some y => rfl
          rw [g5 hsm] at *
          have := hB6.1
          omega
        · have := q2 (by simpa using hop2)
          omega
  · cases hv
end
end Go.Proofs.YtalnnbokmpppjaaAb
