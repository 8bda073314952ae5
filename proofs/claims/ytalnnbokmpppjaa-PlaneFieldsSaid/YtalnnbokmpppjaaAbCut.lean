/- The abstract form of the program's operations, and how a state of the machine lies beside an abstract one. -/
import Derived.Test.YtalnnbokmpppjaaAbRel
namespace Go.Proofs.YtalnnbokmpppjaaAb
open Go Go.RowKit
set_option linter.unusedVariables false
set_option linter.unusedSimpArgs false

def ofCell : Value → Option V
  | .int k n => some (.int k n)
  | .bool b => some (.bool b)
  | .string s => some (.str s.data.toList)
  | .pointer none => some .nilp
  | .slice none 0 0 => some .nils
  | .nilFunc => some .nilf
  | .nilIface => some .nili
  | _ => none
def allOf {α β : Type} (f : α → Option β) : List α → Option (List β)
  | [] => some []
  | x :: l => (f x).bind fun y => (allOf f l).map (y :: ·)
def ofValue : Value → Option V
  | .agg a => (allOf ofCell a.toList).map .agg
  | v => ofCell v
def cX (nt : Nat) : Operand → Option X
  | .tmp t => if t < nt then some (.t t) else none
  | .const v => (ofValue v).map .k
  | .func f => some (.k (.clo f [] []))
  | .global _ => none
def cXs (nt : Nat) (l : Array Operand) : Option (List X) := allOf (cX nt) l.toList
def cXo (nt : Nat) : Option Operand → Option (Option X)
  | none => some none
  | some x => (cX nt x).map some
def aggOf (P : Program) (t : TypeId) : Option (Option Nat) :=
  (P.underlying t).bind fun d => (P.info? t).bind fun i => if i.size = 0 then none else
    match d with
    | .struct _ => some (some i.size)
    | .array _ _ => some (some i.size)
    | _ => some none
/-- the cells of a struct's fields, which lie one behind the other -/
def plainFs (P : Program) (pl : TypeId → Option (List Nat)) : List Field → List Nat → Option (List Nat)
  | [], n => some n
  | f :: fs, n => if f.name ≠ "_" ∧ f.offset = n.length then (pl f.type).bind fun m => if (P.info? f.type).map (·.size) = some m.length then plainFs P pl fs (n ++ m) else none else none
/-- a type of plain cells: which -/
def plain (P : Program) : Nat → TypeId → Option (List Nat)
  | 0, _ => none
  | d + 1, t =>
    match P.underlying t with
    | some .bool => some [1]
    | some (.int _) => some [2]
    | some .string => some [3]
    | some (.struct fs) =>
      if P.stoodInHeld t then none else
      plainFs P (plain P d) fs.toList []
    | some (.array len e) => (plain P d e).bind fun m => if (P.info? e).map (·.size) = some m.length then some (List.replicate len m).flatten else none
    | _ => none
def zeroOf (P : Program) (t : TypeId) : Option (List V) := (P.info? t).bind fun i => i.zero.bind fun z => if z.cells.size = i.size then allOf ofCell z.cells.toList else none
def ikOf (P : Program) (t : TypeId) : Option IntKind := match P.underlying t with | some (.int k) => some k | _ => none
def sizeP (P : Program) (t : TypeId) : Option Nat := (P.info? t).bind fun i => if i.size = 0 then none else some i.size
def cParts (nt : Nat) (place : Nat → Option (Nat × Nat)) : List (Nat × Operand) → Option (List (Nat × Nat × X))
  | [] => some []
  | (i, x) :: l => (place i).bind fun q => if q.2 = 0 then none else (cX nt x).bind fun x => (cParts nt place l).map ((q.1, q.2, x) :: ·)
def cBld (P : Program) (nt : Nat) (t : TypeId) (parts : Array (Nat × Operand)) : Option I :=
  (zeroOf P t).bind fun z =>
    match P.underlying t with
    | some (.struct fs) => (allOf (fun f => (P.info? f.type).map fun i => (f.offset, i.size)) fs.toList).bind fun pl => (cParts nt (pl[·]?) parts.toList).map (.bld z)
    | some (.array _ e) => (P.info? e).bind fun i => (cParts nt (fun k => some (k * i.size, i.size)) parts.toList).map (.bld z)
    | _ => none
def clOf (P : Program) (t : TypeId) : List Nat :=
  match P.underlying t with
  | some .bool => [1]
  | some (.pointer _) => [2]
  | some (.slice _) => [3]
  | some (.func _ _ _) => [4]
  | some (.interface _) => [5]
  | some (.struct _) => if P.eqGuardType P.depth t then [0] else match plain P 60 t with | some ks => 6 :: ks | none => [0]
  | some (.array _ _) => if P.eqGuardType P.depth t then [0] else match plain P 60 t with | some ks => 6 :: ks | none => [0]
  | _ => [0]
def isU8 (P : Program) (t : TypeId) : Bool := match P.underlying t with | some (.int .u8) => true | _ => false
def isStr (P : Program) (t : TypeId) : Bool := match P.underlying t with | some .string => true | _ => false
def cI (P : Program) (res : Nat → Option Nat) (nt : Nat) : Op → Option I
  | .move x => (cX nt x).map .mov
  | .assign x => (cX nt x).map .mov
  | .pick c a b => (cX nt c).bind fun c => (cX nt a).bind fun a => (cX nt b).map fun b => .pick c a b
  | .alloc t => (zeroOf P t).map .alloc
  | .box t x => (cX nt x).map .box
  | .build t parts => cBld P nt t parts
  | .buildSlice t len parts => match P.underlying t with
    | some (.slice e) => (sizeP P e).bind fun sz => (zeroOf P e).bind fun z => if len * sz ≤ 16777216 then
        (cParts nt (fun k => some (k * sz, sz)) parts.toList).map fun ps => .bldS len sz (ikOf P e) (tile z (len * sz)) ps else none
    | _ => none
  | .load t x => (aggOf P t).bind fun g => (cX nt x).map (.load g)
  | .store t x y => (sizeP P t).bind fun sz => (cX nt x).bind fun x => (cX nt y).map fun y => .store sz x y
  | .nilCheck x => (cX nt x).map .nilchk
  | .binOp op t x y _ => (cX nt x).bind fun x => (cX nt y).map fun y => .bin op (clOf P t) x y
  | .unOp op _ x => (cX nt x).map (.un op)
  | .convert src dst x => (P.underlying src).bind fun s => (P.underlying dst).bind fun d => (cX nt x).bind fun x => match s, d with
    | .int _, .int k => some (.toInt k x)
    | .int _, .string => some (.i2s x)
    | .string, .string => some (.idn x)
    | .string, .slice e => if isU8 P e then some (.s2b x) else none
    | .slice e, .string => if isU8 P e then some (.b2s x) else none
    | _, _ => none
  | .makeInterface t x => match P.underlying t with
    | some (.interface _) => none
    | none => none
    | _ => (cX nt x).map (.ifc t)
  | .makeFunc (.func f) fs cs => (cXs nt fs).bind fun fs => (cXs nt cs).map fun cs => .clo f fs cs
  | .makeSlice t l c => match P.underlying t with
    | some (.slice e) => (P.info? e).bind fun i => if i.size = 0 ∨ i.bytes = 0 then none else (zeroOf P e).bind fun z => (cX nt l).bind fun l => (cX nt c).map fun c => .mk i.size i.bytes (ikOf P e) z l c
    | _ => none
  | .slice t x lo hi mx => (cX nt x).bind fun x => (cXo nt lo).bind fun lo => (cXo nt hi).bind fun hi => (cXo nt mx).bind fun mx => match P.underlying t with
    | some .string => if mx.isNone then some (.subS x lo hi) else none
    | some (.slice e) => if mx.isSome && hi.isNone then none else (sizeP P e).map fun sz => .subL sz x lo hi mx
    | some (.array n e) => if mx.isSome && hi.isNone then none else (sizeP P e).map fun sz => .subA n sz x lo hi mx
    | _ => none
  | .fieldAddr s x f => match P.underlying s with
    | some (.struct fs) => (fs[f]?).bind fun fd => (sizeP P fd.type).bind fun _ => (cX nt x).map (.fadr fd.offset)
    | _ => none
  | .field s x f => match P.underlying s with
    | some (.struct fs) => (fs[f]?).bind fun fd => (aggOf P fd.type).bind fun g => (cX nt x).map (.fld fd.offset g)
    | _ => none
  | .indexAddr t x i => (cX nt x).bind fun x => (cX nt i).bind fun i => match P.underlying t with
    | some (.slice e) => (sizeP P e).map fun sz => .iadrL sz x i
    | some (.array n e) => (sizeP P e).map fun sz => .iadrA n sz x i
    | _ => none
  | .index t x i => (cX nt x).bind fun x => (cX nt i).bind fun i => match P.underlying t with
    | some .string => some (.idxS x i)
    | some (.array n e) => (sizeP P e).bind fun sz => (aggOf P e).map fun g => .idxA n sz g x i
    | _ => none
  | .extract x i => (cX nt x).map fun x => .ext x i
  | .call { callee := .value (.func f), args := xs, .. } => (res f).bind fun g => (cXs nt xs).map fun xs => .call g xs
  | .call { callee := .value (.tmp t), args := xs, .. } => if t < nt then (cXs nt xs).map fun xs => .callv (.t t) xs else none
  | .call { callee := .builtin .append, args := xs, argTypes := ts } => match xs.toList, ts.toList with
    | [x, y], [t, u] => (cX nt x).bind fun x => (cX nt y).bind fun y => match P.underlying t with
      | some (.slice e) => (P.info? e).bind fun i => if i.size = 0 ∨ i.bytes = 0 ∨ i.zero.isNone ∨ i.zero.map (·.cells.size) ≠ some i.size then none else match P.underlying u with
        | some (.slice _) => some (.app i.size i.bytes (ikOf P e) x y)
        | some .string => some (.app i.size i.bytes (ikOf P e) x y)
        | _ => none
      | _ => none
    | _, _ => none
  | .call { callee := .builtin .copy, args := xs, argTypes := ts } => match xs.toList, ts.toList with
    | [x, y], t :: _ => (cX nt x).bind fun x => (cX nt y).bind fun y => match P.underlying t with
      | some (.slice e) => (sizeP P e).map fun sz => .copy sz x y
      | _ => none
    | _, _ => none
  | .call { callee := .builtin .len, args := xs, argTypes := ts } => match xs.toList, ts.toList with
    | [x], t :: _ => (cX nt x).bind fun x => match P.underlying t with
      | some .string => some (.lenS x)
      | some (.slice _) => some (.lenL x)
      | some (.array n _) => some (.lenK n)
      | _ => none
    | _, _ => none
  | .call { callee := .builtin .max, args := xs, .. } => match xs.toList with
    | [] => none
    | _ => (cXs nt xs).map (.mm true)
  | .call { callee := .builtin .min, args := xs, .. } => match xs.toList with
    | [] => none
    | _ => (cXs nt xs).map (.mm false)
  | .range t x => if isStr P t then (cX nt x).map .rng else none
  | .next x true => (cX nt x).map .nxt
  | _ => none

/-! ### The state -/
def EnvR (ρ : Rho) (nt : Nat) (e : Env) (a : Act) : Prop := a.tmps.size = nt ∧ ∀ t, t < nt → VR ρ (e t) (a.tmps.getD t undef)
theorem EnvR.ext {p : Nm} {ρ ρ' : Rho} (h : Ext p ρ ρ') {nt : Nat} {e : Env} {a : Act} (k : EnvR ρ nt e a) : EnvR ρ' nt e a := ⟨k.1, fun t ht => (k.2 t ht).ext h⟩
theorem EnvR.put' {ρ : Rho} {nt : Nat} {e : Env} {a : Act} (h : EnvR ρ nt e a) (d : Option Nat) (hd : ∀ t, d = some t → t < nt) {v : V} {v' : Value} (k : VR ρ v v') : EnvR ρ nt (put e d v) (a.put d v') := by
  cases d with
  | none => exact h
  | some d =>
    refine ⟨by simp [Act.put, h.1], fun t ht => ?_⟩
    simp only [Act.put, put, set]
    by_cases e1 : t = d
    · subst e1
      rw [if_pos rfl]
      have : t < a.tmps.size := by rw [h.1]; exact ht
      simpa [Array.getD_eq_getD_getElem?, this] using k
    · rw [if_neg e1]
      have := h.2 t ht
      simp only [Array.getD_eq_getD_getElem?] at this ⊢
      rw [Array.getElem?_setIfInBounds_ne (Ne.symm e1)]
      exact this
theorem VR.undef (ρ : Rho) : VR ρ undefV undef := .tup rfl (fun i v v' h => by simp at h)
theorem VR.ofCell' {ρ : Rho} {v : Value} {x : V} (h : ofCell v = some x) : VR ρ x v ∧ x.scalar = true := by
  unfold ofCell at h
  split at h <;> cases h <;> refine ⟨?_, rfl⟩
  · exact .int _ _
  · exact .bool _
  · rename_i s; exact .str s.data.toList
  · exact .nilp
  · exact .nils
  · exact .nilf
  · exact .nili
theorem allOf_get {α β : Type} {f : α → Option β} : ∀ {l : List α} {m : List β}, allOf f l = some m → l.length = m.length ∧ ∀ (i : Nat) x y, l[i]? = some x → m[i]? = some y → f x = some y
  | [], m, h => by cases h; exact ⟨rfl, fun i x y h => by simp at h⟩
  | a :: l, m, h => by
    simp only [allOf] at h
    obtain ⟨b, hb, h⟩ := Option.bind_eq_some_iff.1 h
    obtain ⟨m', hm, rfl⟩ := Option.map_eq_some_iff.1 h
    obtain ⟨h1, h2⟩ := allOf_get hm
    refine ⟨by simp [h1], fun i x y hx hy => ?_⟩
    cases i with
    | zero => simp at hx hy; rw [← hx, ← hy]; exact hb
    | succ i => simp at hx hy; exact h2 i x y hx hy
theorem VRL.ofCells' {ρ : Rho} {l : List Value} {m : List V} (h : allOf ofCell l = some m) : VRL ρ m l ∧ Scal m := by
  obtain ⟨h1, h2⟩ := allOf_get h
  refine ⟨⟨h1.symm, fun i v v' hv hv' => (VR.ofCell' (h2 i v' v hv' hv)).1⟩, fun v hv => ?_⟩
  obtain ⟨i, hi⟩ := List.getElem?_of_mem hv
  have hlt : i < l.length := by rw [h1]; exact (List.getElem?_eq_some_iff.1 hi).1
  exact (VR.ofCell' (ρ := ρ) (h2 i _ v (List.getElem?_eq_getElem hlt) hi)).2
theorem VR.ofValue' {ρ : Rho} {v : Value} {x : V} (h : ofValue v = some x) : VR ρ x v := by
  unfold ofValue at h
  split at h
  · rename_i a
    obtain ⟨m, hm, rfl⟩ := Option.map_eq_some_iff.1 h
    obtain ⟨h1, h2⟩ := VRL.ofCells' (ρ := ρ) hm
    have := VR.agg' h1 h2
    simpa using this
  · exact (VR.ofCell' h).1
theorem VR.opd {ρ : Rho} {nt : Nat} {e : Env} {a : Act} (hE : EnvR ρ nt e a) {o : Operand} {x : X} (h : cX nt o = some x) : VR ρ (x.ev e) (a.eval o) := by
  cases o with
  | tmp t => simp only [cX] at h; split at h <;> cases h; rename_i ht; exact hE.2 t ht
  | const v => obtain ⟨y, hy, rfl⟩ := Option.map_eq_some_iff.1 h; exact VR.ofValue' hy
  | func f => cases h; exact .clo f rfl (fun i v v' h => by simp at h) rfl (fun i v v' h => by simp at h)
  | global g => cases h
theorem VRL.opds {ρ : Rho} {nt : Nat} {e : Env} {a : Act} (hE : EnvR ρ nt e a) {l : Array Operand} {xs : List X} (h : cXs nt l = some xs) : VRL ρ (xs.map (X.ev e)) (l.map a.eval).toList := by
  obtain ⟨h1, h2⟩ := allOf_get h
  refine ⟨by simp [← h1], fun i v v' hv hv' => ?_⟩
  simp only [List.getElem?_map, Option.map_eq_some_iff, Array.toList_map] at hv hv'
  obtain ⟨x, hx, rfl⟩ := hv
  obtain ⟨o, ho, rfl⟩ := hv'
  exact VR.opd hE (h2 i o x ho hx)
/-- what an operation has done -/
def Done (P : Program) (o : Oper) (a : Act) (w : World) (B0 : Nat) (w0 : World) (ρ : Rho) (H : Heap) (p : Nm) (v : V) (u : Upd) : Prop :=
  ∃ nx w' ρ' v', (execOp a.eval o).run P w = .ok nx w' ∧ (nx = .value v' ∨ (nx = .skip ∧ v' = undef)) ∧ VR ρ' v v' ∧ Ext p ρ ρ' ∧ Sim B0 w0 ρ' (app H u) w'
theorem Done.dry {P : Program} {o : Oper} {a : Act} {w : World} {B0 : Nat} {w0 : World} {ρ : Rho} {H : Heap} {p : Nm} {v : V} (hS : Sim B0 w0 ρ H w) {v' : Value}
    (hr : (execOp a.eval o).run P w = .ok (.value v') w) (hv : VR ρ v v') : Done P o a w B0 w0 ρ H p v [] :=
  ⟨_, w, ρ, v', hr, .inl rfl, hv, Ext.refl _ _, hS⟩
end Go.Proofs.YtalnnbokmpppjaaAb
