/- What is handed in to a law: trees of the law's types; how they lie in the world. -/
import Derived.Test.YtalnnbokmpppjaaFmProg
import Derived.ChangeArms
import Derived.DataReads
import Derived.DataElems
import Derived.OpenShut
import Derived.SizedLaws
namespace Go.Proofs.YtalnnbokmpppjaaAb
open Go Go.ChangeShapes Go.WideShapes Go.RowKit
set_option linter.unusedVariables false
set_option linter.unusedSimpArgs false
def vOf : Value → Option V
  | .int k n => some (.int k n)
  | .bool b => some (.bool b)
  | .string s => some (.str s.data.toList)
  | .slice none 0 0 => some .nils
  | .slice (some a) len cap => if len ≤ cap ∧ (cap ≠ 0 → a.spot = none) then some (.sl [a.block, a.off] 0 len cap false) else none
  | _ => none
def pre : List Value → List V
  | [] => []
  | v :: l => match vOf v with | some x => x :: pre l | none => []
def rowAt (w : World) (b o : Nat) : List V := match w.heap[b]? with | some (.cells c _ _) => pre (c.toList.drop o) | _ => []
def Hw (w : World) : Heap
  | [b, o] => some (.row (rowAt w b o) 0 false)
  | _ => none
def rhoW : Rho
  | [b, o] => some ⟨b, o, 0, 0⟩
  | _ => none
theorem pre_get : ∀ {l : List Value} {i : Nat} {v : V}, (pre l)[i]? = some v → ∃ v', l[i]? = some v' ∧ vOf v' = some v
  | [], i, v, h => by simp [pre] at h
  | x :: l, i, v, h => by
    unfold pre at h
    cases hx : vOf x with
    | none => rw [hx] at h; simp at h
    | some y =>
      rw [hx] at h
      cases i with
      | zero => simp at h; subst h; exact ⟨x, rfl, hx⟩
      | succ i => simpa using pre_get (by simpa using h)
theorem pre_all : ∀ {l : List Value} {n : Nat}, (∀ i, i < n → ∃ v v', l[i]? = some v' ∧ vOf v' = some v) → n ≤ (pre l).length ∧ ∀ i v', i < n → l[i]? = some v' → (pre l)[i]? = vOf v'
  | l, 0, h => ⟨Nat.zero_le _, fun i v' hi => by omega⟩
  | [], n + 1, h => by obtain ⟨v, v', h1, _⟩ := h 0 (by omega); simp at h1
  | x :: l, n + 1, h => by
    obtain ⟨v, v', h1, h2⟩ := h 0 (by omega)
    simp at h1
    subst h1
    obtain ⟨k1, k2⟩ := pre_all (l := l) (n := n) fun i hi => by
      obtain ⟨v, v', h3, h4⟩ := h (i + 1) (by omega)
      exact ⟨v, v', by simpa using h3, h4⟩
    unfold pre
    rw [h2]
    refine ⟨by simp; omega, fun i v' hi hv => ?_⟩
    cases i with
    | zero => simp at hv; subst hv; simp [h2]
    | succ i => simpa using k2 i v' (by omega) (by simpa using hv)
theorem vOf_VR {v : Value} {x : V} (h : vOf v = some x) : VR rhoW x v ∧ x.scalar = true := by
  unfold vOf at h
  split at h
  · cases h; exact ⟨.int _ _, rfl⟩
  · cases h; exact ⟨.bool _, rfl⟩
  · rename_i s; cases h; exact ⟨.str s.data.toList, rfl⟩
  · cases h; exact ⟨.nils, rfl⟩
  · rename_i a len cap
    split at h <;> cases h
    rename_i e
    refine ⟨.slg (l := ⟨a.block, a.off, 0, 0⟩) 0 len cap cap false (some a) rfl e.1 (Nat.le_refl _) (fun _ => rfl) (fun e => by cases e) (fun hc => ?_), rfl⟩
    have := e.2 hc
    obtain ⟨b, o, sp⟩ := a
    simp only at this
    subst this; simp
  · cases h
theorem sim_w (w : World) : Sim w.heap.size w rhoW (Hw w) w := by
  refine ⟨Below.refl _ _, Nat.le_refl _, fun n b hb => ?_, fun n m b c ln lm hn hm hne hb => ?_⟩
  · unfold Hw at hb
    split at hb <;> cases hb
    rename_i bk o
    refine ⟨⟨bk, o, 0, 0⟩, rfl, fun i v hv => ?_, fun e => by cases e⟩
    simp only [Blk.cells] at hv
    unfold rowAt at hv
    split at hv
    · rename_i c _ _ hc
      obtain ⟨v', h1, h2⟩ := pre_get hv
      obtain ⟨k1, k2⟩ := vOf_VR h2
      refine ⟨k2, v', ?_, k1⟩
      simp only [World.cell?, hc]
      rw [List.getElem?_drop] at h1
      simpa using h1
    · simp at hv
  · unfold Hw at hn
    split at hn <;> cases hn
    cases hb
/-! ### Trees of a type -/
inductive TT (P : Program) : TypeId → List FV → Prop where
  | int {t : TypeId} {k : IntKind} {n : Int} (ht : P.underlying t = some (.int k)) (hw : (Lit.int k n).wf = true) : TT P t [.int k n]
  | bool {t : TypeId} {b : Bool} (ht : P.underlying t = some .bool) : TT P t [.bool b]
  | str {t : TypeId} {s : List UInt8} (ht : P.underlying t = some .string) (hs : s.length ≤ reachBytes) : TT P t [.str s]
  | slice {t e : TypeId} {n : Nat} {c : List FV} (ht : P.underlying t = some (.slice e)) (hl : c.length = n * P.cellsOf e) (h : ∀ i, i < n → TT P e ((c.drop (i * P.cellsOf e)).take (P.cellsOf e))) (hb : n * P.bytesOf e ≤ reachBytes) : TT P t [.lst n c]
  | struct {t : TypeId} {fs : Array Field} {c : List FV} (ht : P.underlying t = some (.struct fs)) (hl : c.length = P.cellsOf t) (h : ∀ (i : Nat) f, fs[i]? = some f → TT P f.type ((c.drop f.offset).take (P.cellsOf f.type))) : TT P t c
  | array {t e : TypeId} {n : Nat} {c : List FV} (ht : P.underlying t = some (.array n e)) (hl : c.length = n * P.cellsOf e) (h : ∀ i, i < n → TT P e ((c.drop (i * P.cellsOf e)).take (P.cellsOf e))) : TT P t c
/-- fields that lie one behind the other -/
def tiled (P : Program) : List Field → Nat → Option Nat
  | [], n => some n
  | f :: fs, n => if f.offset = n then tiled P fs (n + P.cellsOf f.type) else none
/-- types that are read as trees -/
def okT (P : Program) (S : List TypeId) (t : TypeId) : Bool :=
  match P.underlying t with
  | some (.int _) => decide (P.cellsOf t = 1)
  | some .bool => decide (P.cellsOf t = 1)
  | some .string => decide (P.cellsOf t = 1)
  | some (.slice e) => decide (e ∈ S) && decide (0 < P.cellsOf e) && decide (P.cellsOf t = 1)
  | some (.struct fs) => fs.toList.all (fun f => decide (f.type ∈ S)) && decide (tiled P fs.toList 0 = some (P.cellsOf t))
  | some (.array n e) => decide (e ∈ S) && decide (P.cellsOf t = n * P.cellsOf e)
  | _ => false
def CVL (cs : List Value) (vs : List V) : Prop := PW (fun v x => vOf v = some x) cs vs
theorem cell_block {w : World} {a : Addr} {v : Value} (h : w.cell? a = some v) : ∃ c e f, w.heap[a.block]? = some (.cells c e f) ∧ a.spot = none ∧ c[a.off]? = some v := by
  unfold World.cell? at h
  split at h
  · rename_i c e f hc
    split at h
    · cases h
    · rename_i hs
      refine ⟨c, e, f, hc, ?_, h⟩
      cases hsp : a.spot with
      | none => rfl
      | some x => rw [hsp] at hs; simp at hs
  · cases h
theorem weights_all' {H : Type} {P : Program} {e : TypeId} : ∀ {ds : List (DataW H)} {d : DataW H}, d ∈ ds → ∀ n ∈ d.weights P e, n ∈ DataW.weightsAll P e ds
  | d0 :: ds, d, hd, n, hn => by
    simp only [DataW.weightsAll, List.mem_append]
    rcases List.mem_cons.1 hd with rfl | hd
    · exact .inl hn
    · exact .inr (weights_all' hd n hn)
  | [], _, hd, _, _ => by cases hd
/-- n chunks of z cells each -/
theorem chunks {w : World} {P : Program} {e : TypeId} {z : Nat} : ∀ (n : Nat) (cs : List Value), cs.length = n * z → (∀ i, i < n → ∃ c vs, CVL ((cs.drop (i * z)).take z) vs ∧ VFL rh0 (Hw w) c vs ∧ TT P e c) →
    ∃ c vs, CVL cs vs ∧ VFL rh0 (Hw w) c vs ∧ ∀ i, i < n → TT P e ((c.drop (i * z)).take z)
  | 0, cs, hl, h => by
    have : cs = [] := List.eq_nil_of_length_eq_zero (by omega)
    subst this
    exact ⟨[], [], PW.nil, PW.nil, fun i hi => by omega⟩
  | n + 1, cs, hl, h => by
    have hz : z ≤ cs.length := by rw [hl, Nat.add_mul]; omega
    obtain ⟨c0, vs0, a1, a2, a3⟩ := h 0 (by omega)
    simp only [Nat.zero_mul, List.drop_zero] at a1
    have hl' : (cs.drop z).length = n * z := by rw [List.length_drop, hl, Nat.add_mul]; omega
    obtain ⟨c1, vs1, b1, b2, b3⟩ := chunks (w := w) (P := P) (e := e) n (cs.drop z) hl' (fun i hi => by
      have := h (i + 1) (by omega)
      rwa [List.drop_drop, show z + i * z = (i + 1) * z by rw [Nat.add_mul]; omega])
    have hc0 : c0.length = z := by rw [a2.1, ← a1.1]; simp; omega
    refine ⟨c0 ++ c1, vs0 ++ vs1, ?_, a2.append b2, fun i hi => ?_⟩
    · have := a1.append b1
      rwa [List.take_append_drop] at this
    · cases i with
      | zero => simp only [Nat.zero_mul, List.drop_zero]; rw [← hc0, List.take_left]; exact a3
      | succ i =>
        have := b3 i (by omega)
        rw [show (i + 1) * z = c0.length + i * z by rw [hc0, Nat.add_mul]; omega, ← List.drop_drop, List.drop_left]
        exact this
theorem fields {w : World} {P : Program} (F : Field → Prop) : ∀ (fs : List Field) (k : Nat) (cs : List Value) (total : Nat), tiled P fs k = some total → cs.length = total → (∀ f ∈ fs, ∃ c vs, CVL ((cs.drop f.offset).take (P.cellsOf f.type)) vs ∧ VFL rh0 (Hw w) c vs ∧ TT P f.type c) →
    ∃ c vs, CVL (cs.drop k) vs ∧ VFL rh0 (Hw w) c vs ∧ k ≤ total ∧ ∀ f ∈ fs, k ≤ f.offset ∧ TT P f.type ((c.drop (f.offset - k)).take (P.cellsOf f.type))
  | [], k, cs, total, ht, hl, _ => by
    cases ht
    have : cs.drop k = [] := List.drop_eq_nil_of_le (by omega)
    rw [this]
    exact ⟨[], [], PW.nil, PW.nil, Nat.le_refl _, fun f hf => by cases hf⟩
  | f :: fs, k, cs, total, ht, hl, h => by
    simp only [tiled] at ht
    split at ht
    · rename_i hof
      obtain ⟨c1, vs1, b1, b2, b3, b4⟩ := fields (w := w) F fs (k + P.cellsOf f.type) cs total ht hl (fun g hg => h g (List.mem_cons_of_mem _ hg))
      obtain ⟨c0, vs0, a1, a2, a3⟩ := h f (by simp)
      rw [hof] at a1
      have hc0 : c0.length = P.cellsOf f.type := by rw [a2.1, ← a1.1]; simp; omega
      refine ⟨c0 ++ c1, vs0 ++ vs1, ?_, a2.append b2, by omega, fun g hg => ?_⟩
      · have := a1.append b1
        rwa [← List.drop_drop, List.take_append_drop] at this
      · rcases List.mem_cons.1 hg with rfl | hg
        · refine ⟨by omega, ?_⟩
          rw [hof, Nat.sub_self, List.drop_zero, ← hc0, List.take_left]; exact a3
        · obtain ⟨d1, d2⟩ := b4 g hg
          refine ⟨by omega, ?_⟩
          rw [show g.offset - k = c0.length + (g.offset - (k + P.cellsOf f.type)) by omega, ← List.drop_drop, List.drop_left]
          exact d2
    · cases ht
/-- what is read is a tree of its type -/
theorem open_tree {P : Program} {S : List TypeId} (hS : ∀ t ∈ S, okT P S t = true) {H : Type} {enc : TypeId × Value → H} {w : World} {base : Nat} {held : Bool} : ∀ (fuel : Nat) (t : TypeId) (cs : List Value) (x : DataW H × List MemPlace), t ∈ S → DataW.trod enc P w base (fun _ => true) held fuel t cs = some x → (∀ n ∈ x.1.weights P t, n ≤ reachBytes) →
    ∃ c vs, CVL cs vs ∧ VFL rh0 (Hw w) c vs ∧ TT P t c
  | 0, t, cs, x, _, h, _ => by simp [DataW.trod] at h
  | fuel + 1, t, cs, x, ht, h, hw => by
    have hok := hS t ht
    unfold okT at hok
    split at hok
    · rename_i k hu
      obtain ⟨n, rfl, rfl, hwf⟩ := DataW.trod_int hu h
      exact ⟨[.int k n], [.int k n], PW.cons rfl PW.nil, PW.cons (.int _ _ _ _) PW.nil, .int hu hwf⟩
    · rename_i hu
      obtain ⟨b, rfl, rfl⟩ := DataW.trod_bool hu h
      exact ⟨[.bool b], [.bool b], PW.cons rfl PW.nil, PW.cons (.bool _ _ _) PW.nil, .bool hu⟩
    · rename_i hu
      obtain ⟨s, rfl, rfl, _⟩ := DataW.trod_string hu h
      refine ⟨[.str s.data.toList], [.str s.data.toList], PW.cons rfl PW.nil, PW.cons (.str _ _ _) PW.nil, .str hu ?_⟩
      exact hw s.data.toList.length (by simp [DataW.weights])
    · rename_i e hu
      simp only [Bool.and_eq_true, decide_eq_true_eq] at hok
      obtain ⟨⟨heS, hz⟩, _⟩ := hok
      rcases DataW.trod_slice hu h with ⟨rfl, rfl⟩ | ⟨a, len, cap, elems, rest, n, hfu, rfl, rfl, hb, hl, hm, hlen, hel, hsp, _⟩
      · exact ⟨[.lst 0 []], [.nils], PW.cons rfl PW.nil, PW.cons (.lst0 _ _) PW.nil, .slice hu (by simp) (fun i hi => by omega) (by simp)⟩
      · have hfu' : n = fuel := by omega
        subst hfu'
        obtain ⟨sp1, sp2⟩ := hsp rfl
        -- every cell of the row is there
        have each : ∀ i, i < len → ∃ ci d, w.cells? base (a.add (i * P.cellsOf e)) (P.cellsOf e) = some ci ∧ DataW.trod enc P w base (fun _ => true) held n e ci = some d ∧ elems[i]? = some d := fun i hi => by
          have h1 := hel i hi
          rw [List.getElem?_eq_getElem (by omega)] at h1
          obtain ⟨ci, hc1, hc2⟩ := Option.bind_eq_some_iff.mp h1
          exact ⟨ci, _, hc1, hc2, List.getElem?_eq_getElem (by omega)⟩
        have spot : cap ≠ 0 → a.spot = none := fun hc => by
          by_cases hl0 : 0 < len
          · obtain ⟨ci, d, h1, _⟩ := each 0 hl0
            obtain ⟨_, hcl, hcc⟩ := World.cells?_some h1
            have h2 := hcc 0 hz
            rw [List.getElem?_eq_getElem (by omega)] at h2
            obtain ⟨_, _, _, _, h3, _⟩ := cell_block h2
            simpa [Addr.add] using h3
          · have hl00 : len = 0 := by omega
            subst hl00
            have h1 := sp2 0 (by omega)
            rw [List.getElem?_eq_getElem (by omega)] at h1
            obtain ⟨ci, hc1, _⟩ := Option.bind_eq_some_iff.mp h1
            obtain ⟨_, hcl, hcc⟩ := World.cells?_some hc1
            have h2 := hcc 0 hz
            rw [List.getElem?_eq_getElem (by omega)] at h2
            obtain ⟨_, _, _, _, h3, _⟩ := cell_block h2
            simpa [Addr.add] using h3
        have hvof : vOf (.slice (some a) len cap) = some (.sl [a.block, a.off] 0 len cap false) := by
          show (if len ≤ cap ∧ (cap ≠ 0 → a.spot = none) then _ else none) = _
          rw [if_pos ⟨hl, spot⟩]
        have hbytes : len * P.bytesOf e ≤ reachBytes := by
          have z := hw ((elems.length + rest.length) * P.bytesOf e) (by simp [DataW.weights, hu])
          refine Nat.le_trans (Nat.mul_le_mul_right _ ?_) z
          omega
        by_cases hl0 : len = 0
        · subst hl0
          exact ⟨[.lst 0 []], [.sl [a.block, a.off] 0 0 cap false], PW.cons hvof PW.nil, PW.cons (.lstE _ _ _ _ _ _) PW.nil, .slice hu (by simp) (fun i hi => by omega) (by simp)⟩
        · -- the row's cells
          obtain ⟨ci0, d0, h10, _⟩ := each 0 (by omega)
          obtain ⟨_, hcl0, hcc0⟩ := World.cells?_some h10
          have h20 := hcc0 0 hz
          rw [List.getElem?_eq_getElem (by omega)] at h20
          obtain ⟨row, et, fz, hrow, _, _⟩ := cell_block h20
          have hrow : w.heap[a.block]? = some (.cells row et fz) := by simpa [Addr.add] using hrow
          have hcell : ∀ i j, i < len → j < P.cellsOf e → ∀ ci, w.cells? base (a.add (i * P.cellsOf e)) (P.cellsOf e) = some ci → row.toList[a.off + (i * P.cellsOf e + j)]? = ci[j]? := fun i j hi hj ci hci => by
            obtain ⟨_, hcl, hcc⟩ := World.cells?_some hci
            have h2 := hcc j hj
            rw [Addr.add_add] at h2
            rw [← h2]
            have hsp0 := spot (by omega)
            obtain ⟨ab, ao, asp⟩ := a
            simp only at hsp0
            subst hsp0
            simp only [Addr.add_lit, World.cell?]
            simp only at hrow
            rw [hrow]
            simp
          have hrl : a.off + len * P.cellsOf e ≤ row.toList.length := by
            obtain ⟨ci, d, h1, _⟩ := each (len - 1) (by omega)
            obtain ⟨_, hcl, _⟩ := World.cells?_some h1
            have h2 := hcell (len - 1) (P.cellsOf e - 1) (by omega) (by omega) ci h1
            rw [List.getElem?_eq_getElem (l := ci) (by omega)] at h2
            have h3 := (List.getElem?_eq_some_iff.1 h2).1
            have : len * P.cellsOf e = (len - 1) * P.cellsOf e + P.cellsOf e := by rw [← Nat.succ_mul]; congr 1; omega
            omega
          let cells := (row.toList.drop a.off).take (len * P.cellsOf e)
          have hcl : cells.length = len * P.cellsOf e := by show (List.take _ _).length = _; rw [List.length_take, List.length_drop]; omega
          have hchunk : ∀ i ci, i < len → w.cells? base (a.add (i * P.cellsOf e)) (P.cellsOf e) = some ci → (cells.drop (i * P.cellsOf e)).take (P.cellsOf e) = ci := fun i ci hi hci => by
            obtain ⟨_, hcl1, _⟩ := World.cells?_some hci
            have hle : (i + 1) * P.cellsOf e ≤ len * P.cellsOf e := Nat.mul_le_mul_right _ (by omega)
            rw [Nat.add_mul] at hle
            apply List.ext_getElem?
            intro j
            by_cases hj : j < P.cellsOf e
            · have h2 := hcell i j hi hj ci hci
              show (((List.take _ _).drop _).take _)[j]? = _
              rw [List.getElem?_take, if_pos hj, List.getElem?_drop, List.getElem?_take, if_pos (by omega), List.getElem?_drop]
              exact h2
            · rw [List.getElem?_eq_none (by simp; omega), List.getElem?_eq_none (by omega)]
          obtain ⟨c, vs, k1, k2, k3⟩ := chunks (w := w) (P := P) (e := e) len cells hcl (fun i hi => by
            obtain ⟨ci, d, h1, h2, h3⟩ := each i hi
            rw [hchunk i ci hi h1]
            refine open_tree hS n e ci d heS h2 fun m hm => hw m ?_
            simp only [DataW.weights, hu, List.mem_cons, List.mem_append]
            exact .inr (.inl (weights_all' (List.mem_map.2 ⟨d, List.mem_of_getElem? h3, rfl⟩) m hm)))
          have hlen2 : c.length = len * P.cellsOf e := by rw [k2.1, ← k1.1, hcl]
          have hH : Hw w [a.block, a.off] = some (.row (rowAt w a.block a.off) 0 false) := rfl
          have hpre : ∀ i, i < len * P.cellsOf e → ∃ v v', (row.toList.drop a.off)[i]? = some v' ∧ vOf v' = some v ∧ cells[i]? = some v' := fun i hi => by
            have h1 : cells[i]? = some cells[i] := List.getElem?_eq_getElem (by omega)
            obtain ⟨v, h2, h3⟩ := k1.get h1
            refine ⟨v, _, ?_, h3, h1⟩
            have h4 : (List.take (len * P.cellsOf e) (row.toList.drop a.off))[i]? = some cells[i] := h1
            rw [List.getElem?_take, if_pos hi] at h4
            exact h4
          obtain ⟨p1, p2⟩ := pre_all (l := row.toList.drop a.off) (n := len * P.cellsOf e) fun i hi => by
            obtain ⟨v, v', h1, h2, _⟩ := hpre i hi
            exact ⟨v, v', h1, h2⟩
          have hrowAt : rowAt w a.block a.off = pre (row.toList.drop a.off) := by unfold rowAt; rw [hrow]
          refine ⟨[.lst len c], [.sl [a.block, a.off] 0 len cap false], PW.cons hvof PW.nil, PW.cons ?_ PW.nil, .slice hu hlen2 k3 hbytes⟩
          refine .lst hH (by omega) hl ?_ (fun i v v' hv hv' => ?_) (fun e => by cases e)
          · show 0 + c.length ≤ (rowAt w a.block a.off).length
            rw [hrowAt, hlen2]; omega
          · have hi : i < len * P.cellsOf e := by rw [← hlen2]; exact (List.getElem?_eq_some_iff.1 hv).1
            obtain ⟨y, y', h1, h2, h3⟩ := hpre i hi
            have h4 : (rowAt w a.block a.off)[0 + i]? = some v' := hv'
            rw [Nat.zero_add, hrowAt, p2 i y' hi h1, h2] at h4
            cases h4
            obtain ⟨z, h5, h6⟩ := k1.get h3
            rw [h2] at h6; cases h6
            exact k2.2 i v v' hv h5
    · rename_i fs hu
      simp only [Bool.and_eq_true, decide_eq_true_eq, List.all_eq_true] at hok
      obtain ⟨xs, n, hfu, rfl, hcl, hl, hfs⟩ := DataW.trod_struct hu h
      have hfu' : n = fuel := by omega
      subst hfu'
      have each : ∀ f ∈ fs.toList, ∃ c vs, CVL ((cs.drop f.offset).take (P.cellsOf f.type)) vs ∧ VFL rh0 (Hw w) c vs ∧ TT P f.type c := fun f hf => by
        obtain ⟨i, hi⟩ := List.getElem?_of_mem hf
        have hi' : fs[i]? = some f := by simpa using hi
        have h1 := hfs i f hi'
        have hix : i < xs.length := by rw [hl]; exact (Array.getElem?_eq_some_iff.1 hi').1
        rw [List.getElem?_eq_getElem hix] at h1
        refine open_tree hS n f.type _ xs[i] (hok.1 f hf) h1 fun m hm => hw m ?_
        simp only [DataW.weights, hu]
        refine DataW.weights_mem_each (j := i) (t := f.type) (d := xs[i].1) ?_ ?_ m hm
        · rw [List.getElem?_map, hi]; rfl
        · rw [List.getElem?_map, List.getElem?_eq_getElem hix]; rfl
      obtain ⟨c, vs, k1, k2, _, k3⟩ := fields (w := w) (fun _ => True) fs.toList 0 cs _ hok.2 hcl each
      rw [List.drop_zero] at k1
      refine ⟨c, vs, k1, k2, .struct hu (by rw [k2.1, ← k1.1, hcl]) fun i f hf => ?_⟩
      have := (k3 f (by simpa using Array.mem_of_getElem? hf)).2
      simpa using this
    · rename_i m e hu
      simp only [Bool.and_eq_true, decide_eq_true_eq] at hok
      obtain ⟨xs, n, hfu, rfl, hcl, hl, hel⟩ := DataW.trod_array hu h
      have hfu' : n = fuel := by omega
      subst hfu'
      obtain ⟨c, vs, k1, k2, k3⟩ := chunks (w := w) (P := P) (e := e) m cs (by rw [hcl, hok.2]) (fun i hi => by
        have h1 := hel i hi
        rw [List.getElem?_eq_getElem (by omega)] at h1
        refine open_tree hS n e _ _ hok.1 h1 fun q hq => hw q ?_
        simp only [DataW.weights, hu]
        exact weights_all' (List.mem_map.2 ⟨_, List.getElem_mem (by omega), rfl⟩) q hq)
      exact ⟨c, vs, k1, k2, .array hu (by rw [k2.1, ← k1.1, hcl, hok.2]) k3⟩
    · cases hok
theorem agg_cells {P : Program} {w : World} {r : Reach} {base : Nat} {t : TypeId} {v : Value} {fs : Array Field} (ht : P.underlying t = some (.struct fs)) (h : Value.okWide P w r base t v) : ∃ cs : List Value, v = .agg ⟨cs⟩ ∧ v.cells.toList = cs := by
  obtain ⟨cs, rfl, _⟩ := okWide_struct ht h
  exact ⟨cs.toList, by simp, by simp [Value.cells]⟩
theorem arg1 {P : Program} {w : World} {t : TypeId} {v : Value} (h : ∃ c vs, CVL [v] vs ∧ VFL rh0 (Hw w) c vs ∧ TT P t c) : ∃ fv x, VF rh0 (Hw w) fv x ∧ VR rhoW x v ∧ TT P t [fv] := by
  obtain ⟨c, vs, h1, h2, h3⟩ := h
  obtain ⟨x, l, rfl, k1, k2⟩ := h1.head
  have : l = [] := PW.nil' k2
  subst this
  cases c with
  | nil => have := h2.1; simp at this
  | cons fv c =>
    obtain ⟨x', l', e, k3, k4⟩ := h2.head
    cases e
    have : c = [] := List.eq_nil_of_length_eq_zero (by have := k4.1; simpa using this)
    subst this
    exact ⟨fv, x, k3, (vOf_VR k1).1, h3⟩
theorem arg2 {P : Program} {w : World} {t : TypeId} {cs : List Value} (h : ∃ c vs, CVL cs vs ∧ VFL rh0 (Hw w) c vs ∧ TT P t c) : ∃ c x, VF rh0 (Hw w) (.agg c) x ∧ VR rhoW x (.agg ⟨cs⟩) ∧ TT P t c := by
  obtain ⟨c, vs, h1, h2, h3⟩ := h
  refine ⟨c, .agg vs, .agg' h2, ?_, h3⟩
  have := VR.agg' (ρ := rhoW) (l := vs) (m := cs) ⟨h1.1.symm, fun i v v' a b => (vOf_VR (h1.2 i v' v b a)).1⟩ (fun v hv => by
    obtain ⟨i, hi⟩ := List.getElem?_of_mem hv
    have hlt : i < cs.length := by rw [h1.1]; exact (List.getElem?_eq_some_iff.1 hi).1
    exact (vOf_VR (h1.2 i _ v (List.getElem?_eq_getElem hlt) hi)).2)
  simpa using this
/-- a law that the functional machine answers with true -/
theorem law_calls {P : Program} {res : Nat → Option Nat} {ir : Nat → Option F} (hg : Good P res ir) (hir : ∀ f F, ir f = some F → F.body.okR = true) {sg : Sg} {f : Nat} {fargs : List FV} (h : FC ir sg f fargs = some (.bool true, [])) {w : World} {avs : List V} {args : Array Value}
    (h1 : VFL rh0 (Hw w) fargs avs) (h2 : VRL rhoW avs args.toList) : Calls P f args w (fun e w' => e = .returned (.bool true) ∧ Below w.heap.size w w') := by
  have long : ∀ m : Nm, under [0, 0, 0] m = true → 3 ≤ m.length := fun m hm => by
    rw [under_iff] at hm; have := hm.length_le; simpa using this
  have hN : ∀ m : Nm, under [0, 0, 0] m = true → Hw w m = none := fun m hm => by
    have := long m hm
    unfold Hw; split
    · simp at this
    · rfl
  have hF : Fresh [0, 0, 0] rhoW := fun m hm => by
    have := long m hm
    unfold rhoW; split
    · simp at this
    · rfl
  obtain ⟨v, u, I', ws, hc, B⟩ := FC_sound hir f fargs _ _ h (Hw w) (Hw w) avs [] [0, 0, 0] (LR.of (h1.imp fun _ _ k => .one (.tree k))) hN (fun _ _ h => h) List.nodup_nil (fun lc hlc => by cases hlc)
  have hv : v = .bool true := by
    have := (B.res.two_inv (fun l e => by cases e)).one_inv (fun l e => by cases e)
    cases this with
    | tree h => exact bool_f h
  subst hv
  refine (sound hg hc h2 (sim_w w) hF).mono fun e w' hG => ?_
  obtain ⟨ρ', v', rfl, k1, k2, k3⟩ := hG
  exact ⟨by rw [bool_of k1], k3.below⟩
/-! ### Trees, taken apart -/
theorem TT_int {P : Program} {t : TypeId} {c : List FV} (h : TT P t c) {k : IntKind} (ht : P.underlying t = some (.int k)) : ∃ n, c = [.int k n] ∧ (Lit.int k n).wf = true := by
  cases h <;> simp_all
theorem TT_bool {P : Program} {t : TypeId} {c : List FV} (h : TT P t c) (ht : P.underlying t = some .bool) : ∃ b, c = [.bool b] := by
  cases h <;> simp_all
theorem TT_str {P : Program} {t : TypeId} {c : List FV} (h : TT P t c) (ht : P.underlying t = some .string) : ∃ s, c = [.str s] ∧ s.length ≤ reachBytes := by
  cases h <;> simp_all
theorem TT_slice {P : Program} {t e : TypeId} {c : List FV} (h : TT P t c) (ht : P.underlying t = some (.slice e)) : ∃ n l, c = [.lst n l] ∧ l.length = n * P.cellsOf e ∧ (∀ i, i < n → TT P e ((l.drop (i * P.cellsOf e)).take (P.cellsOf e))) ∧ n * P.bytesOf e ≤ reachBytes := by
  cases h <;> simp_all
  exact ⟨_, _, ⟨rfl, rfl⟩, by assumption, by assumption, by assumption⟩
theorem TT_struct {P : Program} {t : TypeId} {fs : Array Field} {c : List FV} (h : TT P t c) (ht : P.underlying t = some (.struct fs)) : c.length = P.cellsOf t ∧ ∀ (i : Nat) f, fs[i]? = some f → TT P f.type ((c.drop f.offset).take (P.cellsOf f.type)) := by
  cases h <;> simp_all
  assumption
/-- a list of things of one kind -/
theorem TT_list {P : Program} {e : TypeId} {α : Type} {z : Nat} (enc : α → List FV) (Q : α → Prop) (he : ∀ c, TT P e c → ∃ a, c = enc a ∧ Q a) (hz : ∀ a, (enc a).length = z) : ∀ (n : Nat) (l : List FV), l.length = n * z → (∀ i, i < n → TT P e ((l.drop (i * z)).take z)) → ∃ xs : List α, xs.length = n ∧ l = xs.flatMap enc ∧ ∀ x ∈ xs, Q x
  | 0, l, hl, _ => ⟨[], rfl, List.eq_nil_of_length_eq_zero (by omega), fun x hx => by cases hx⟩
  | n + 1, l, hl, h => by
    have h0 := h 0 (by omega)
    simp only [Nat.zero_mul, List.drop_zero] at h0
    obtain ⟨a, ha, hq⟩ := he _ h0
    have hl' : (l.drop z).length = n * z := by rw [List.length_drop, hl, Nat.add_mul]; omega
    obtain ⟨xs, h1, h2, h3⟩ := TT_list enc Q he hz n (l.drop z) hl' (fun i hi => by
      have := h (i + 1) (by omega)
      rwa [List.drop_drop, show z + i * z = (i + 1) * z by rw [Nat.add_mul]; omega])
    refine ⟨a :: xs, by simp [h1], ?_, fun x hx => ?_⟩
    · rw [List.flatMap_cons, ← ha, ← h2, List.take_append_drop]
    · rcases List.mem_cons.1 hx with rfl | hx
      · exact hq
      · exact h3 x hx
theorem flatMap_ints (k : IntKind) : ∀ (l : List Int), (l.flatMap fun n => [FV.int k n]) = ints k l
  | [] => rfl
  | a :: l => by rw [List.flatMap_cons, flatMap_ints k l]; rfl
theorem TT_ints {P : Program} {t e : TypeId} {c : List FV} (h : TT P t c) {k : IntKind} (ht : P.underlying t = some (.slice e)) (he : P.underlying e = some (.int k)) (h1 : P.cellsOf e = 1) : ∃ l, c = [.lst l.length (ints k l)] ∧ (∀ x ∈ l, (Lit.int k x).wf = true) ∧ l.length * P.bytesOf e ≤ reachBytes := by
  obtain ⟨n, l, rfl, h2, h3, h4⟩ := TT_slice h ht
  rw [h1] at h2 h3
  obtain ⟨xs, k1, k2, k3⟩ := TT_list (P := P) (e := e) (fun n => [FV.int k n]) (fun n => (Lit.int k n).wf = true) (fun c hc => TT_int hc he) (fun _ => rfl) n l h2 h3
  subst k1
  exact ⟨xs, by rw [k2, flatMap_ints], k3, h4⟩
end Go.Proofs.YtalnnbokmpppjaaAb
