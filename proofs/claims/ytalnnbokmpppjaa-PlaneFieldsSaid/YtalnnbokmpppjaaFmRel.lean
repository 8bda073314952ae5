/- How the functional machine's values and blocks lie beside the abstract machine's. -/
import Derived.Test.YtalnnbokmpppjaaFmDef
import Derived.Test.YtalnnbokmpppjaaAbCall
namespace Go.Proofs.YtalnnbokmpppjaaAb
open Go
set_option linter.unusedVariables false
set_option linter.unusedSimpArgs false
/-! ### Lists, cell by cell -/
def PW {α β : Type} (R : α → β → Prop) (l : List α) (m : List β) : Prop := l.length = m.length ∧ ∀ (i : Nat) v v', l[i]? = some v → m[i]? = some v' → R v v'
section
variable {α β : Type} {R : α → β → Prop}
theorem PW.nil : PW R [] [] := ⟨rfl, fun i v v' h => by simp at h⟩
theorem PW.cons {v : α} {v' : β} {l : List α} {m : List β} (h : R v v') (k : PW R l m) : PW R (v :: l) (v' :: m) := by
  refine ⟨by simp [k.1], fun i a b ha hb => ?_⟩
  cases i with
  | zero => simp at ha hb; rw [← ha, ← hb]; exact h
  | succ i => simp at ha hb; exact k.2 i a b ha hb
theorem PW.head {v : α} {l : List α} {m : List β} (h : PW R (v :: l) m) : ∃ v' m', m = v' :: m' ∧ R v v' ∧ PW R l m' := by
  cases m with
  | nil => have := h.1; simp at this
  | cons v' l' => exact ⟨v', l', rfl, h.2 0 _ _ (by simp) (by simp), by have := h.1; simpa using this, fun i a b ha hb => h.2 (i + 1) a b (by simpa using ha) (by simpa using hb)⟩
theorem PW.nil' {m : List β} (h : PW R [] m) : m = [] := List.eq_nil_of_length_eq_zero (by have := h.1; simpa using this.symm)
theorem PW.get {l : List α} {m : List β} (h : PW R l m) {i : Nat} {v : α} (hv : l[i]? = some v) : ∃ v', m[i]? = some v' ∧ R v v' := by
  have hi : i < l.length := (List.getElem?_eq_some_iff.1 hv).1
  exact ⟨m[i]'(h.1 ▸ hi), List.getElem?_eq_getElem _, h.2 i v _ hv (List.getElem?_eq_getElem _)⟩
theorem PW.append {a b : List α} {a' b' : List β} (h : PW R a a') (k : PW R b b') : PW R (a ++ b) (a' ++ b') := by
  refine ⟨by simp [h.1, k.1], fun i v v' hv hv' => ?_⟩
  by_cases hi : i < a.length
  · rw [List.getElem?_append_left hi] at hv
    rw [List.getElem?_append_left (h.1 ▸ hi)] at hv'
    exact h.2 i v v' hv hv'
  · rw [List.getElem?_append_right (by omega)] at hv
    rw [List.getElem?_append_right (by rw [← h.1]; omega), ← h.1] at hv'
    exact k.2 _ v v' hv hv'
theorem PW.take {a : List α} {a' : List β} (h : PW R a a') (n : Nat) : PW R (a.take n) (a'.take n) := by
  refine ⟨by simp [h.1], fun i v v' hv hv' => ?_⟩
  rw [List.getElem?_take] at hv hv'
  split at hv <;> simp_all
  exact h.2 i v v' hv hv'
theorem PW.drop {a : List α} {a' : List β} (h : PW R a a') (n : Nat) : PW R (a.drop n) (a'.drop n) := by
  refine ⟨by simp [h.1], fun i v v' hv hv' => ?_⟩
  rw [List.getElem?_drop] at hv hv'
  exact h.2 _ v v' hv hv'
theorem PW.over {a b : List α} {a' b' : List β} (h : PW R a a') (k : PW R b b') (o : Nat) : PW R (over a o b) (over a' o b') := by
  unfold Go.Proofs.YtalnnbokmpppjaaAb.over; rw [k.1]
  exact ((h.take o).append k).append (h.drop _)
theorem PW.imp {S : α → β → Prop} {l : List α} {m : List β} (h : PW R l m) (k : ∀ a b, R a b → S a b) : PW S l m := ⟨h.1, fun i v v' hv hv' => k v v' (h.2 i v v' hv hv')⟩
theorem PW.map {γ δ : Type} {f : γ → α} {g : δ → β} {l : List γ} {m : List δ} (h : PW (fun x y => R (f x) (g y)) l m) : PW R (l.map f) (m.map g) := by
  refine ⟨by simp [h.1], fun i v v' hv hv' => ?_⟩
  simp only [List.getElem?_map, Option.map_eq_some_iff] at hv hv'
  obtain ⟨x, hx, rfl⟩ := hv
  obtain ⟨y, hy, rfl⟩ := hv'
  exact h.2 i x y hx hy
theorem PW.refl' {l : List α} {f : α → β} (h : ∀ x ∈ l, R x (f x)) : PW R l (l.map f) := by
  refine ⟨by simp, fun i v v' hv hv' => ?_⟩
  rw [List.getElem?_map, hv] at hv'
  cases hv'
  exact h v (List.mem_of_getElem? hv)
end
/-! ### Values -/
structure Lc where
  n : Nm
  base : Nat
  bs : Nat
  sz : Nat
  esz : Nat
  ik : Option IntKind
abbrev Rh := Nat → Nat → Option Lc
def rh0 : Rh := fun _ _ => none
abbrev Im := Nm → Option Blk
inductive VF : Rh → Im → FV → V → Prop where
  | bad (ρ I v) : VF ρ I .bad v
  | int (ρ I k n) : VF ρ I (.int k n) (.int k n)
  | bool (ρ I b) : VF ρ I (.bool b) (.bool b)
  | str (ρ I s) : VF ρ I (.str s) (.str s)
  | nilp (ρ I) : VF ρ I .nilp .nilp
  | nilf (ρ I) : VF ρ I .nilf .nilf
  | nili (ρ I) : VF ρ I .nili .nili
  | emp (ρ I) : VF ρ I .emp .nils
  | empS (ρ I n o) : VF ρ I .emp (.sl n o 0 0 false)
  | lst0 (ρ I) : VF ρ I (.lst 0 []) .nils
  | lstE (ρ I n o cap opn) : VF ρ I (.lst 0 []) (.sl n o 0 cap opn)
  | lst {ρ : Rh} {I : Im} {n o cap : Nat} {nm : Nm} {c : List FV} {opn : Bool} {b : Blk} (hI : I nm = some b) (hn : 0 < n) (hc : n ≤ cap) (hl : o + c.length ≤ b.size)
      (h : ∀ (i : Nat) v v', c[i]? = some v → b.cells[o + i]? = some v' → VF rh0 I v v') (ho : opn = true → b.own = true ∧ c.length = n * b.esz) : VF ρ I (.lst n c) (.sl nm o n cap opn)
  | tp {ρ : Rh} {I : Im} {nm : Nm} {c : List FV} {b : Blk} (base o : Nat) (hI : I nm = some b) (hl : base + c.length ≤ b.size)
      (h : ∀ (i : Nat) v v', c[i]? = some v → b.cells[base + i]? = some v' → VF rh0 I v v') : VF ρ I (.tp c o) (.ptr nm (base + o))
  | bys {ρ : Rh} {I : Im} {nm : Nm} (s : List UInt8) (hI : I nm = some (.ints .u8 (s.map fun b => (b.toNat : Int)) false)) : VF ρ I (.bys s) (.sl nm 0 s.length s.length true)
  | ref {ρ : Rh} {I : Im} {d g o n cap o' : Nat} {opn : Bool} {lc : Lc} (hρ : ρ d g = some lc) (hz : 0 < lc.esz) (hs : o + n * lc.esz ≤ lc.sz) (hc : n ≤ cap) (ho : cap ≠ 0 ∨ opn = true → o' = lc.base + o)
      (h1 : opn = true → lc.base = 0 ∧ lc.bs = lc.sz ∧ o + cap * lc.esz = lc.sz) (h2 : opn = false → lc.base + o + cap * lc.esz ≤ lc.bs) : VF ρ I (.ref d g o n) (.sl lc.n o' n cap opn)
  | ptr {ρ : Rh} {I : Im} {d g : Nat} {lc : Lc} (o : Nat) (hρ : ρ d g = some lc) : VF ρ I (.ptr d g o) (.ptr lc.n (lc.base + o))
  | agg {ρ : Rh} {I : Im} {l : List FV} {m : List V} (hl : l.length = m.length) (h : ∀ (i : Nat) v v', l[i]? = some v → m[i]? = some v' → VF ρ I v v') : VF ρ I (.agg l) (.agg m)
  | tup {ρ : Rh} {I : Im} {l : List FV} {m : List V} (hl : l.length = m.length) (h : ∀ (i : Nat) v v', l[i]? = some v → m[i]? = some v' → VF ρ I v v') : VF ρ I (.tup l) (.tup m)
  | clo {ρ : Rh} {I : Im} (f : Nat) {fs cs : List FV} {fs' cs' : List V} (hl : fs.length = fs'.length) (h : ∀ (i : Nat) v v', fs[i]? = some v → fs'[i]? = some v' → VF ρ I v v')
      (kl : cs.length = cs'.length) (k : ∀ (i : Nat) v v', cs[i]? = some v → cs'[i]? = some v' → VF ρ I v v') : VF ρ I (.clo f fs cs) (.clo f fs' cs')
  | ifc {ρ : Rh} {I : Im} (t : Nat) {v : FV} {v' : V} (h : VF ρ I v v') : VF ρ I (.ifc t v) (.ifc t v')
abbrev VFL (ρ : Rh) (I : Im) : List FV → List V → Prop := PW (VF ρ I)
def ExR (ρ ρ' : Rh) : Prop := ∀ d g lc, ρ d g = some lc → ρ' d g = some lc
def ExI (I I' : Im) : Prop := ∀ m b, I m = some b → I' m = some b
theorem ExR.refl (ρ : Rh) : ExR ρ ρ := fun _ _ _ h => h
theorem ExI.refl (I : Im) : ExI I I := fun _ _ h => h
theorem ExR.trans {a b c : Rh} (h : ExR a b) (k : ExR b c) : ExR a c := fun d g lc hh => k d g lc (h d g lc hh)
theorem ExI.trans {a b c : Im} (h : ExI a b) (k : ExI b c) : ExI a c := fun d g hh => k d g (h d g hh)
theorem ExR.zero (ρ : Rh) : ExR rh0 ρ := fun _ _ _ h => by cases h
theorem VF.ext {ρ : Rh} {I : Im} {v : FV} {v' : V} (h : VF ρ I v v') : ∀ {ρ' : Rh} {I' : Im}, ExR ρ ρ' → ExI I I' → VF ρ' I' v v' := by
  induction h with
  | bad => intros; exact .bad _ _ _
  | int => intros; exact .int _ _ _ _
  | bool => intros; exact .bool _ _ _
  | str => intros; exact .str _ _ _
  | nilp => intros; exact .nilp _ _
  | nilf => intros; exact .nilf _ _
  | nili => intros; exact .nili _ _
  | emp => intros; exact .emp _ _
  | empS => intros; exact .empS _ _ _ _
  | lst0 => intros; exact .lst0 _ _
  | lstE => intros; exact .lstE _ _ _ _ _ _
  | lst hI hn hc hl _ ho ih => intro ρ' I' hr hi; exact .lst (hi _ _ hI) hn hc hl (fun i v v' a b => ih i v v' a b (ExR.refl _) hi) ho
  | tp base o hI hl _ ih => intro ρ' I' hr hi; exact .tp base o (hi _ _ hI) hl (fun i v v' a b => ih i v v' a b (ExR.refl _) hi)
  | bys s hI => intro ρ' I' hr hi; exact .bys s (hi _ _ hI)
  | ref hρ hz hs hc ho h1 h2 => intro ρ' I' hr hi; exact .ref (hr _ _ _ hρ) hz hs hc ho h1 h2
  | ptr o hρ => intro ρ' I' hr hi; exact .ptr o (hr _ _ _ hρ)
  | agg hl _ ih => intro ρ' I' hr hi; exact .agg hl (fun i v v' a b => ih i v v' a b hr hi)
  | tup hl _ ih => intro ρ' I' hr hi; exact .tup hl (fun i v v' a b => ih i v v' a b hr hi)
  | clo f hl _ kl _ ih1 ih2 => intro ρ' I' hr hi; exact .clo f hl (fun i v v' a b => ih1 i v v' a b hr hi) kl (fun i v v' a b => ih2 i v v' a b hr hi)
  | ifc t _ ih => intro ρ' I' hr hi; exact .ifc t (ih hr hi)
theorem PW.ext {ρ ρ' : Rh} {I I' : Im} {l : List FV} {m : List V} (h : VFL ρ I l m) (hr : ExR ρ ρ') (hi : ExI I I') : VFL ρ' I' l m := h.imp fun _ _ k => k.ext hr hi
section
variable {ρ : Rh} {I : Im}
theorem int_f {k : IntKind} {n : Int} {x : V} (h : VF ρ I (.int k n) x) : x = .int k n := by cases h; rfl
theorem bool_f {b : Bool} {x : V} (h : VF ρ I (.bool b) x) : x = .bool b := by cases h; rfl
theorem str_f {b : List UInt8} {x : V} (h : VF ρ I (.str b) x) : x = .str b := by cases h; rfl
theorem agg_f {l : List FV} {x : V} (h : VF ρ I (.agg l) x) : ∃ m, x = .agg m ∧ VFL ρ I l m := by cases h with | agg hl h => exact ⟨_, rfl, hl, h⟩
theorem tup_f {l : List FV} {x : V} (h : VF ρ I (.tup l) x) : ∃ m, x = .tup m ∧ VFL ρ I l m := by cases h with | tup hl h => exact ⟨_, rfl, hl, h⟩
theorem clo_f {f : Nat} {fs cs : List FV} {x : V} (h : VF ρ I (.clo f fs cs) x) : ∃ a b, x = .clo f a b ∧ VFL ρ I fs a ∧ VFL ρ I cs b := by cases h with | clo f hl h kl k => exact ⟨_, _, rfl, ⟨hl, h⟩, ⟨kl, k⟩⟩
theorem ifc_f {t : Nat} {v : FV} {x : V} (h : VF ρ I (.ifc t v) x) : ∃ a, x = .ifc t a ∧ VF ρ I v a := by cases h with | ifc t h => exact ⟨_, rfl, h⟩
theorem ptr_f {d g o : Nat} {x : V} (h : VF ρ I (.ptr d g o) x) : ∃ lc, ρ d g = some lc ∧ x = .ptr lc.n (lc.base + o) := by cases h with | ptr o h => exact ⟨_, h, rfl⟩
theorem VF.agg' {l : List FV} {m : List V} (h : VFL ρ I l m) : VF ρ I (.agg l) (.agg m) := .agg h.1 h.2
theorem VF.tup' {l : List FV} {m : List V} (h : VFL ρ I l m) : VF ρ I (.tup l) (.tup m) := .tup h.1 h.2
theorem VF.clo' {f : Nat} {l l2 : List FV} {m m2 : List V} (h : VFL ρ I l m) (k : VFL ρ I l2 m2) : VF ρ I (.clo f l l2) (.clo f m m2) := .clo f h.1 h.2 k.1 k.2
theorem VF.undef : VF ρ I fundef undefV := .tup' PW.nil
theorem VF.ofS (v : V) : VF ρ I (ofS v) v := by
  unfold Go.Proofs.YtalnnbokmpppjaaAb.ofS
  split
  · exact .int _ _ _ _
  · exact .bool _ _ _
  · exact .str _ _ _
  · exact .nilp _ _
  · exact .emp _ _
  · exact .nilf _ _
  · exact .nili _ _
  · exact .clo' PW.nil PW.nil
  · exact .bad _ _ _
theorem VFL.ofS (l : List V) : VFL ρ I (l.map ofS) l := by
  have := (PW.refl' (R := fun v f => VF ρ I f v) (l := l) (f := Go.Proofs.YtalnnbokmpppjaaAb.ofS) fun x _ => VF.ofS x)
  exact ⟨this.1.symm, fun i v v' a b => this.2 i v' v b a⟩
theorem VF.ofV (v : V) : VF ρ I (ofV v) v := by
  unfold Go.Proofs.YtalnnbokmpppjaaAb.ofV
  split
  · exact .agg' (VFL.ofS _)
  · exact .tup' PW.nil
  · exact VF.ofS v
theorem VF.cells {v : FV} {v' : V} (h : VF ρ I v v') {c : List FV} (hc : v.cells = some c) : VFL ρ I c v'.cells := by
  cases h
  case bad => cases hc
  case agg hl h => cases hc; exact ⟨hl, h⟩
  case tup hl h => cases hc; exact PW.nil
  all_goals
    cases hc
    refine PW.cons ?_ PW.nil
    first | constructor <;> assumption | skip
/-- a cell that is a tree by itself hangs on no names -/
theorem VF.leaf {v : FV} {v' : V} (h : VF ρ I v v') (hl : v.leaf = true) : VF rh0 I v v' := by
  cases h <;> simp only [FV.leaf, Bool.false_eq_true] at hl
  case int => exact .int _ _ _ _
  case bool => exact .bool _ _ _
  case str => exact .str _ _ _
  case nilp => exact .nilp _ _
  case nilf => exact .nilf _ _
  case nili => exact .nili _ _
  case emp => exact .emp _ _
  case empS => exact .empS _ _ _ _
  case lst0 => exact .lst0 _ _
  case lstE => exact .lstE _ _ _ _ _ _
  case lst => constructor <;> assumption
  case tp => constructor <;> assumption
  case clo f fs cs fs' cs' hl' kl h k =>
    cases fs <;> cases cs <;> simp only [FV.leaf, Bool.false_eq_true, reduceCtorEq] at hl
    rw [PW.nil' (R := VF ρ I) ⟨hl', h⟩, PW.nil' (R := VF ρ I) ⟨kl, k⟩]
    exact .clo' PW.nil PW.nil
theorem VFL.leaf {l : List FV} {m : List V} (h : VFL ρ I l m) (hl : l.all FV.leaf = true) : VFL rh0 I l m :=
  ⟨h.1, fun i v v' a b => (h.2 i v v' a b).leaf (List.all_eq_true.1 hl v (List.mem_of_getElem? a))⟩
end
/-! ### Blocks -/
/-- the cells c lie in the block from o on -/
def CR (ρ : Rh) (I : Im) (c : List FV) (o : Nat) (b : Blk) : Prop := o + c.length ≤ b.size ∧ ∀ (i : Nat) v v', c[i]? = some v → b.cells[o + i]? = some v' → VF ρ I v v'
theorem CR.pw {ρ : Rh} {I : Im} {c : List FV} {o : Nat} {b : Blk} (h : CR ρ I c o b) : VFL ρ I c ((b.cells.drop o).take c.length) := by
  have hs := Blk.size_cells b
  refine ⟨by have := h.1; simp; omega, fun i v v' a k => h.2 i v v' a ?_⟩
  rw [List.getElem?_take, List.getElem?_drop] at k
  split at k <;> simp_all
theorem CR.of {ρ : Rh} {I : Im} {c : List FV} {o : Nat} {b : Blk} (h1 : o + c.length ≤ b.size) (h : VFL ρ I c ((b.cells.drop o).take c.length)) : CR ρ I c o b := by
  refine ⟨h1, fun i v v' a k => h.2 i v v' a ?_⟩
  have := (List.getElem?_eq_some_iff.1 a).1
  rw [List.getElem?_take, List.getElem?_drop, if_pos this, k]
theorem CR.ext {ρ ρ' : Rh} {I I' : Im} {c : List FV} {o : Nat} {b : Blk} (h : CR ρ I c o b) (hr : ExR ρ ρ') (hi : ExI I I') : CR ρ' I' c o b := ⟨h.1, fun i v v' a k => (h.2 i v v' a k).ext hr hi⟩
theorem CR.sub {ρ : Rh} {I : Im} {c : List FV} {o : Nat} {b : Blk} (h : CR ρ I c o b) (a n : Nat) (ha : a + n ≤ c.length) : CR ρ I ((c.drop a).take n) (o + a) b := by
  refine ⟨by have := h.1; simp; omega, fun i v v' hv hk => ?_⟩
  rw [List.getElem?_take, List.getElem?_drop] at hv
  split at hv
  · exact h.2 (a + i) v v' hv (by rw [← hk]; congr 1; omega)
  · cases hv
theorem CR.range {ρ : Rh} {I : Im} {c : List FV} {o : Nat} {b : Blk} (h : CR ρ I c o b) (a n : Nat) (ha : a + n ≤ c.length) : ∃ l, b.range (o + a) n = some l ∧ VFL ρ I ((c.drop a).take n) l := by
  have hc := h.sub a n ha
  have h1 := h.1
  refine ⟨(b.cells.drop (o + a)).take n, ?_, ?_⟩
  · unfold Blk.range; rw [if_pos (by omega)]
  · have := hc.pw
    rwa [show ((c.drop a).take n).length = n by simp; omega] at this
theorem Blk.get_cells (b : Blk) (i : Nat) : b.get i = b.cells[i]? := by cases b <;> simp [Blk.get, Blk.cells]
theorem CR.get {ρ : Rh} {I : Im} {c : List FV} {o : Nat} {b : Blk} (h : CR ρ I c o b) {i : Nat} {v : FV} (hv : c[i]? = some v) : ∃ v', b.get (o + i) = some v' ∧ VF ρ I v v' := by
  have hi := (List.getElem?_eq_some_iff.1 hv).1
  have h1 := h.1
  have hs := Blk.size_cells b
  refine ⟨b.cells[o + i]'(by omega), ?_, h.2 i v _ hv (List.getElem?_eq_getElem _)⟩
  rw [Blk.get_cells]; exact List.getElem?_eq_getElem _
theorem CR.agg {ρ : Rh} {I : Im} {c : List FV} {o : Nat} {b : Blk} (h : CR ρ I c o b) {g : Option Nat} {i : Nat} {v : FV} (hv : aggF c i g = some v) : ∃ v', aggLoad b (o + i) g = some v' ∧ VF ρ I v v' := by
  cases g with
  | none => exact h.get hv
  | some n =>
    simp only [aggF] at hv
    split at hv <;> cases hv
    obtain ⟨l, h1, h2⟩ := h.range i n ‹_›
    exact ⟨.agg l, by simp [aggLoad, h1], .agg' h2⟩
def KindR : Option IntKind → Blk → Prop
  | some k, b => ∃ l, b = .ints k l true
  | none, b => ∃ c e, b = .row c e true
def BRel (ρ : Rh) (I : Im) (lc : Lc) : FB → Blk → Prop
  | .row g fr tr ik esz c, b => lc.sz = c.length ∧ lc.esz = esz ∧ lc.bs = b.size ∧ b.esz = esz ∧ KindR ik b ∧ CR (if tr then rh0 else ρ) I c lc.base b ∧ (fr = true → I lc.n = some b) ∧ lc.ik = ik
  | .iter g s pos, b => b = .iter s pos ∧ lc.base = 0
def FB.fz : FB → Bool
  | .row _ fr _ _ _ _ => fr
  | .iter _ _ _ => false
theorem KindR.own {ik : Option IntKind} {b : Blk} (h : KindR ik b) : b.own = true := by
  cases ik with
  | none => obtain ⟨c, e, rfl⟩ := h; rfl
  | some k => obtain ⟨l, rfl⟩ := h; rfl
theorem BRel.ext {ρ ρ' : Rh} {I I' : Im} {lc : Lc} {fb : FB} {b : Blk} (h : BRel ρ I lc fb b) (hr : ExR ρ ρ') (hi : ExI I I') : BRel ρ' I' lc fb b := by
  cases fb with
  | iter => exact h
  | row g fr tr ik esz c =>
    obtain ⟨h1, h2, h3, h4, h5, h6, h7, h8⟩ := h
    refine ⟨h1, h2, h3, h4, h5, ?_, fun e => hi _ _ (h7 e), h8⟩
    cases tr
    · exact h6.ext hr hi
    · exact h6.ext (ExR.refl _) hi
structure Rl (W : Nm → Prop) (ρ : Rh) (I : Im) (L : FHeap) (H : Heap) (n : Nat) : Prop where
  gen : ∀ d g lc, ρ d g = some lc → g < n
  blk : ∀ d fb, L d = some fb → ∃ lc b, ρ d fb.g = some lc ∧ H lc.n = some b ∧ BRel ρ I lc fb b
  inj : ∀ d d' fb fb' lc lc', L d = some fb → L d' = some fb' → d ≠ d' → ρ d fb.g = some lc → ρ d' fb'.g = some lc' → lc.n ≠ lc'.n
  imm : ∀ m b, I m = some b → H m = some b
  wr : ∀ d fb lc, L d = some fb → fb.fz = false → ρ d fb.g = some lc → I lc.n = none ∧ W lc.n
section
variable {W : Nm → Prop} {ρ : Rh} {I : Im} {L : FHeap} {H : Heap} {n : Nat}
theorem Rl.le (h : Rl W ρ I L H n) {L' : FHeap} (hL : ∀ d fb, L' d = some fb → L d = some fb) {n' : Nat} (hn : n ≤ n') : Rl W ρ I L' H n' :=
  ⟨fun d g lc k => Nat.lt_of_lt_of_le (h.gen d g lc k) hn, fun d fb k => h.blk d fb (hL _ _ k), fun d d' fb fb' lc lc' a b => h.inj d d' fb fb' lc lc' (hL _ _ a) (hL _ _ b), h.imm, fun d fb lc a => h.wr d fb lc (hL _ _ a)⟩
theorem rowOf_some {d g : Nat} {r} (h : rowOf L d g = some r) : L d = some (.row g r.1 r.2.1 r.2.2.1 r.2.2.2.1 r.2.2.2.2) := by
  unfold rowOf at h
  split at h
  · rename_i he
    split at h <;> cases h
    rename_i e; rw [he, e]
  · cases h
/-- a block: at its place lies b -/
theorem Rl.row (h : Rl W ρ I L H n) {d g : Nat} {r} (hr : rowOf L d g = some r) {lc : Lc} (hl : ρ d g = some lc) : ∃ b, H lc.n = some b ∧ BRel ρ I lc (.row g r.1 r.2.1 r.2.2.1 r.2.2.2.1 r.2.2.2.2) b := by
  obtain ⟨lc', b, h1, h2, h3⟩ := h.blk d _ (rowOf_some hr)
  rw [show FB.g (.row g r.1 r.2.1 r.2.2.1 r.2.2.2.1 r.2.2.2.2) = g from rfl, hl] at h1
  cases h1
  exact ⟨b, h2, h3⟩
/-- a block is put in place d; all else stays -/
theorem Rl.add (h : Rl W ρ I L H n) (d : Nat) (fb : FB) {ρ' : Rh} (hr : ExR ρ ρ') {n' : Nat} (hgen : ∀ d g lc, ρ' d g = some lc → g < n') {lc : Lc} (hl : ρ' d fb.g = some lc) {H' : Heap} {b : Blk} (hb : H' lc.n = some b) (hB : BRel ρ' I lc fb b)
    (ho : ∀ d' fb' lc', d' ≠ d → L d' = some fb' → ρ d' fb'.g = some lc' → lc'.n ≠ lc.n ∧ H' lc'.n = H lc'.n) (hI : ∀ m b, I m = some b → H' m = some b) (hw : fb.fz = false → I lc.n = none ∧ W lc.n) :
    Rl W ρ' I (fun x => if x = d then some fb else L x) H' n' := by
  have old : ∀ d' fb', L d' = some fb' → ∃ lc' b', ρ d' fb'.g = some lc' ∧ ρ' d' fb'.g = some lc' ∧ H lc'.n = some b' ∧ BRel ρ I lc' fb' b' := fun d' fb' k => by
    obtain ⟨lc', b', h1, h2, h3⟩ := h.blk d' fb' k
    exact ⟨lc', b', h1, hr _ _ _ h1, h2, h3⟩
  refine ⟨hgen, fun d' fb' k => ?_, fun d1 d2 f1 f2 l1 l2 k1 k2 hne e1 e2 => ?_, hI, fun d' fb' lc' k hf e => ?_⟩
  · have k : (if d' = d then some fb else L d') = some fb' := k
    split at k
    · rename_i e; cases k; subst e; exact ⟨lc, b, hl, hb, hB⟩
    · rename_i e
      obtain ⟨lc', b', h1, h2, h3, h4⟩ := old d' fb' k
      exact ⟨lc', b', h2, by rw [(ho d' fb' lc' e k h1).2]; exact h3, h4.ext hr (ExI.refl _)⟩
  · replace k1 : (if d1 = d then some fb else L d1) = some f1 := k1
    replace k2 : (if d2 = d then some fb else L d2) = some f2 := k2
    by_cases x1 : d1 = d
    · rw [if_pos x1] at k1
      cases k1; subst x1
      rw [hl] at e1; cases e1
      rw [if_neg (fun e => hne e.symm)] at k2
      obtain ⟨lc', b', h1, h2, _⟩ := old d2 f2 k2
      rw [h2] at e2; cases e2
      exact fun e => (ho d2 f2 _ (fun e => hne e.symm) k2 h1).1 e.symm
    · rw [if_neg x1] at k1
      obtain ⟨lc', b', h1, h2, _⟩ := old d1 f1 k1
      rw [h2] at e1; cases e1
      by_cases x2 : d2 = d
      · rw [if_pos x2] at k2
        cases k2; subst x2
        rw [hl] at e2; cases e2
        exact (ho d1 f1 _ x1 k1 h1).1
      · rw [if_neg x2] at k2
        obtain ⟨lc2, b2, h3, h4, _⟩ := old d2 f2 k2
        rw [h4] at e2; cases e2
        exact h.inj d1 d2 f1 f2 _ _ k1 k2 hne h1 h3
  · have k : (if d' = d then some fb else L d') = some fb' := k
    split at k
    · rename_i x; cases k; subst x; rw [hl] at e; cases e; exact hw hf
    · obtain ⟨lc2, b2, h3, h4, _⟩ := old d' fb' k
      rw [h4] at e; cases e
      exact h.wr d' fb' _ k hf h3
end
def Rh.put (ρ : Rh) (d g : Nat) (lc : Lc) : Rh := fun d' g' => if d' = d ∧ g' = g then some lc else ρ d' g'
theorem Rh.put_at (ρ : Rh) (d g : Nat) (lc : Lc) : ρ.put d g lc d g = some lc := by unfold Rh.put; rw [if_pos ⟨rfl, rfl⟩]
theorem Rh.put_ext {ρ : Rh} {d g : Nat} (lc : Lc) (h : ρ d g = none) : ExR ρ (ρ.put d g lc) := fun d' g' l k => by
  unfold Rh.put; rw [if_neg]; exact k
  rintro ⟨rfl, rfl⟩; rw [h] at k; cases k
theorem Rh.put_gen {ρ : Rh} {d g n : Nat} {lc : Lc} (h : ∀ d g lc, ρ d g = some lc → g < n) (hg : g < n + 1) : ∀ d' g' l, ρ.put d g lc d' g' = some l → g' < n + 1 := fun d' g' l k => by
  unfold Rh.put at k
  split at k
  · rename_i e; rw [e.2]; exact hg
  · have := h _ _ _ k; omega
theorem fapp_nil (L : FHeap) : fapp L [] = L := rfl
theorem fapp_cons (L : FHeap) (d : Nat) (b : Option FB) (u : FUpd) : fapp L ((d, b) :: u) = fun x => if x = d then b else fapp L u x := by
  funext x
  show (match flook ((d, b) :: u) x with | some b => b | none => L x) = _
  simp only [flook]
  by_cases h : x = d
  · rw [if_pos h, if_pos h]
  · rw [if_neg h, if_neg h]; rfl
theorem flook_append (u v : FUpd) (n : Nat) : flook (u ++ v) n = match flook u n with | some b => some b | none => flook v n := by
  induction u with
  | nil => rfl
  | cons q u ih =>
    obtain ⟨m, b⟩ := q
    simp only [List.cons_append, flook]
    split
    · rfl
    · exact ih
theorem fapp_append (L : FHeap) (u v : FUpd) : fapp L (u ++ v) = fapp (fapp L v) u := by
  funext n
  show (match flook (u ++ v) n with | some b => b | none => L n) = (match flook u n with | some b => b | none => fapp L v n)
  rw [flook_append]
  cases flook u n <;> rfl
end Go.Proofs.YtalnnbokmpppjaaAb
