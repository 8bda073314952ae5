/- What data that is handed in reads as, kind by kind: whatever the row's reading lets in is a value of the printed kinds. No program here. -/
import Derived.Test.YtnihjbcdlgfklaaVMotionMirrorWords
import Derived.ChangeArms
import Derived.DataReads
import Derived.DataElems
import Derived.ProofKit
import Derived.OpenShut
import Derived.SizedLaws
namespace Go.Proofs.Ytnihjbcdlgfklaa.Opens
open Go.ChangeShapes Go.WideShapes Go.RowKit Go.Proofs.YtnihjbcdlgfklaaW.PrintWords

/-- Data of type t that is read, and is no heavier than the reach lets, is a value of kind d with the property Q. -/
def Opn {α : Type} (P : Program) (t : TypeId) (d : Kd α) (Q : α → Prop) : Prop :=
  ∀ {H : Type} (enc : TypeId × Value → H) (w : World) (base : Nat) (held : Bool) (fuel : Nat) (cs : List Value) (x : DataW H × List MemPlace),
    DataW.trod enc P w base (fun _ => true) held fuel t cs = some x → (∀ n ∈ x.1.weights P t, n ≤ reachBytes) → ∃ a, d.K w a cs ∧ Q a

theorem opn_int {P : Program} {t : TypeId} {k : IntKind} (ht : P.underlying t = some (.int k)) : Opn P t (Kd.int k) (fun n => (Lit.int k n).wf = true) := by
  intro H enc w base held fuel cs x h _
  obtain ⟨n, hc, _, hw⟩ := DataW.trod_int ht h
  exact ⟨n, hc, hw⟩
theorem opn_bool {P : Program} {t : TypeId} (ht : P.underlying t = some .bool) : Opn P t Kd.bool (fun _ => True) := by
  intro H enc w base held fuel cs x h _
  obtain ⟨b, hc, _⟩ := DataW.trod_bool ht h
  exact ⟨b, hc, trivial⟩
theorem opn_string {P : Program} {t : TypeId} (ht : P.underlying t = some .string) : Opn P t Kd.string (fun s => s.size ≤ reachBytes) := by
  intro H enc w base held fuel cs x h hw
  obtain ⟨s, hc, hx, _⟩ := DataW.trod_string ht h
  refine ⟨s, hc, ?_⟩
  have z := hw s.data.toList.length (by rw [hx]; simp [DataW.weights])
  simpa using z

theorem exists_list {α : Type} {p : Nat → α → Prop} (n : Nat) (h : ∀ i, i < n → ∃ a, p i a) : ∃ xs : List α, xs.length = n ∧ ∀ i a, xs[i]? = some a → p i a := by
  induction n with
  | zero => exact ⟨[], rfl, fun i a hi => by simp at hi⟩
  | succ n ih =>
    obtain ⟨xs, hl, hx⟩ := ih (fun i hi => h i (by omega))
    obtain ⟨a, ha⟩ := h n (by omega)
    refine ⟨xs ++ [a], by simp [hl], ?_⟩
    intro i b hi
    by_cases e : i < n
    · rw [List.getElem?_append_left (by omega)] at hi
      exact hx i b hi
    · rw [List.getElem?_append_right (by omega)] at hi
      have e2 : i = n := by
        by_cases e3 : i - xs.length = 0
        · omega
        · rw [List.getElem?_eq_none (by simp; omega)] at hi
          cases hi
      subst e2
      rw [hl, Nat.sub_self] at hi
      simp at hi
      exact hi ▸ ha

theorem weights_all {H : Type} {P : Program} {e : TypeId} : ∀ {ds : List (DataW H)} {d : DataW H}, d ∈ ds → ∀ n ∈ d.weights P e, n ∈ DataW.weightsAll P e ds
  | d0 :: ds, d, hd, n, hn => by
    simp only [DataW.weightsAll, List.mem_append]
    rcases List.mem_cons.1 hd with rfl | hd
    · exact .inl hn
    · exact .inr (weights_all hd n hn)
  | [], _, hd, _, _ => by cases hd

theorem opn_slice {P : Program} {t e : TypeId} {α : Type} {d : Kd α} {Q : α → Prop} (ht : P.underlying t = some (.slice e)) (hc : P.cellsOf e = d.sz) {B : Nat} (hB : P.bytesOf e = B) (h : Opn P e d Q) :
    Opn P t (Kd.slice e d) (fun xs => (∀ x ∈ xs, Q x) ∧ xs.length * B ≤ reachBytes) := by
  intro H enc w base held fuel cs x hx hw
  rcases DataW.trod_slice ht hx with ⟨rfl, rfl⟩ | ⟨a, len, cap, elems, rest, n, _, rfl, rfl, hb, hl, hm, hlen, hel, hsp, _⟩
  · exact ⟨[], ⟨none, 0, rfl, Nat.le_refl _, rfl, by simp, fun h0 => absurd h0 (by simp)⟩, by simp, by simp⟩
  · have each : ∀ i, i < len → ∃ u, (∃ c, w.cells? base (a.add (i * P.cellsOf e)) (P.cellsOf e) = some c ∧ d.K w u c) ∧ Q u := by
      intro i hi
      have h1 := hel i hi
      rw [List.getElem?_eq_getElem (by omega)] at h1
      obtain ⟨c, hc1, hc2⟩ := Option.bind_eq_some_iff.mp h1
      obtain ⟨u, hu, hq⟩ := h enc w base held n c _ hc2 (fun m hm => hw m (by
        simp only [DataW.weights, ht, List.mem_cons, List.mem_append]
        refine .inr (.inl (weights_all ?_ m hm))
        exact List.mem_map.2 ⟨_, List.getElem_mem (by omega), rfl⟩))
      exact ⟨u, ⟨c, hc1, hu⟩, hq⟩
    obtain ⟨xs, hxl, hxs⟩ := exists_list len each
    have hlen2 : xs.length = len := hxl
    subst hxl
    have h9 : xs.length ≤ 9223372036854775807 := by unfold maxLen at hm; omega
    refine ⟨xs, ⟨some a, cap, rfl, hl, rfl, h9, fun _ => ⟨a, rfl, ?_⟩⟩, ?_, ?_⟩
    · intro j p hp
      obtain ⟨⟨c, hc1, hk⟩, _⟩ := hxs j p hp
      obtain ⟨_, hcl, hcc⟩ := World.cells?_some hc1
      refine ⟨c, by rw [hcl, hc], hk, ?_⟩
      intro i u hu
      have hi : i < P.cellsOf e := by
        rw [← hcl]
        exact (List.getElem?_eq_some_iff.1 hu).1
      have h2 := hcc i hi
      rw [Addr.add_add, hu] at h2
      rw [← hc]
      exact h2
    · intro y hy
      obtain ⟨i, hi⟩ := List.mem_iff_getElem?.1 hy
      exact (hxs i y hi).2
    · have z := hw ((elems.length + rest.length) * P.bytesOf e) (by simp [DataW.weights, ht])
      rw [hB] at z
      refine Nat.le_trans (Nat.mul_le_mul_right _ ?_) z
      omega

/-! A struct's cells: each field reads by itself. -/
theorem trod_field {H : Type} {enc : TypeId × Value → H} {P : Program} {w : World} {base : Nat} {held : Bool} {fuel : Nat} {t : TypeId} {cs : List Value} {x : DataW H × List MemPlace} {fs : Array Field}
    (ht : P.underlying t = some (.struct fs)) (h : DataW.trod enc P w base (fun _ => true) held fuel t cs = some x) (hw : ∀ n ∈ x.1.weights P t, n ≤ reachBytes) (i : Nat) {f : Field} (hf : fs[i]? = some f) {o n ft : Nat} (ho : f.offset = o) (hT : f.type = ft) (hn : P.cellsOf ft = n) :
    ∃ fuel' y, DataW.trod enc P w base (fun _ => true) held fuel' ft ((cs.drop o).take n) = some y ∧ ∀ n ∈ y.1.weights P ft, n ≤ reachBytes := by
  subst ho hT hn
  obtain ⟨xs, m, _, rfl, _, hl, hfs⟩ := DataW.trod_struct ht h
  have h1 := hfs i f hf
  have hi : i < xs.length := by rw [hl]; exact (Array.getElem?_eq_some_iff.1 hf).1
  rw [List.getElem?_eq_getElem hi] at h1
  refine ⟨m, _, h1, ?_⟩
  intro q hq
  refine hw q ?_
  simp only [DataW.weights, ht]
  refine DataW.weights_mem_each (j := i) (t := f.type) (d := xs[i].1) ?_ ?_ q hq
  · rw [List.getElem?_map, Array.getElem?_toList, hf]; rfl
  · rw [List.getElem?_map, List.getElem?_eq_getElem hi]; rfl
theorem trod_length {H : Type} {enc : TypeId × Value → H} {P : Program} {w : World} {base : Nat} {held : Bool} {fuel : Nat} {t : TypeId} {cs : List Value} {x : DataW H × List MemPlace} {fs : Array Field}
    (ht : P.underlying t = some (.struct fs)) (h : DataW.trod enc P w base (fun _ => true) held fuel t cs = some x) {n : Nat} (hn : P.cellsOf t = n) : cs.length = n := by
  obtain ⟨xs, m, _, rfl, hl, _, hfs⟩ := DataW.trod_struct ht h
  omega
/-- A value of a struct type, by its cells. -/
theorem agg_cells {P : Program} {w : World} {r : Reach} {base : Nat} {t : TypeId} {v : Value} {fs : Array Field} (ht : P.underlying t = some (.struct fs)) (h : Value.okWide P w r base t v) : ∃ cs : List Value, v = .agg ⟨cs⟩ ∧ v.cells.toList = cs := by
  obtain ⟨cs, rfl, _⟩ := okWide_struct ht h
  exact ⟨cs.toList, by simp, by simp [Value.cells]⟩
theorem one_cell {v c : Value} (hv : v.cells.toList = [c]) (h : ∀ cs, v ≠ .agg cs) : v = c := by
  cases v <;> simp_all [Value.cells]
end Go.Proofs.Ytnihjbcdlgfklaa.Opens
