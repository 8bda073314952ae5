/- The abstract machine: values, blocks under names, operations, code; what it answers does not hang on the order of evaluation. -/
import Derived.ProofKit
namespace Go.Proofs.YtalnnbokmpppjaaAb
open Go
set_option linter.unusedVariables false

/-- the name of a block: the road to the operation that made it -/
abbrev Nm := List Nat
inductive V where
  | int (k : IntKind) (n : Int)
  | bool (b : Bool)
  | str (s : List UInt8)
  | nilp
  | ptr (n : Nm) (o : Nat)
  | nils
  | sl (n : Nm) (o len cap : Nat) (opn : Bool)
  | agg (l : List V)
  | tup (l : List V)
  | clo (f : Nat) (fs cs : List V)
  | nilf
  | ifc (t : Nat) (v : V)
  | nili
  deriving Inhabited
inductive Blk where
  | row (c : List V) (esz : Nat) (own : Bool)
  | ints (k : IntKind) (l : List Int) (own : Bool)
  | iter (s : List UInt8) (pos : Nat)
def undefV : V := .tup []
abbrev Heap := Nm → Option Blk
abbrev Upd := List (Nm × Option Blk)
def look : Upd → Nm → Option (Option Blk)
  | [], _ => none
  | (m, b) :: u, n => if n = m then some b else look u n
def app (H : Heap) (u : Upd) : Heap := fun n => match look u n with | some b => b | none => H n

def V.cells : V → List V
  | .agg l => l
  | .tup _ => []
  | v => [v]
/-- a value of one cell -/
def V.scalar : V → Bool
  | .agg _ => false
  | .tup _ => false
  | _ => true
def Blk.cells : Blk → List V
  | .row c _ _ => c
  | .ints k l _ => l.map (.int k)
  | .iter _ _ => []
def Blk.get : Blk → Nat → Option V
  | .row c _ _, i => c[i]?
  | .ints k l _, i => (l[i]?).map (.int k)
  | .iter _ _, _ => none
def Blk.size : Blk → Nat
  | .row c _ _ => c.length
  | .ints _ l _ => l.length
  | .iter _ _ => 0
def Blk.own : Blk → Bool
  | .row _ _ o => o
  | .ints _ _ o => o
  | .iter _ _ => true
def Blk.esz : Blk → Nat
  | .row _ e _ => e
  | .ints _ _ _ => 1
  | .iter _ _ => 0
/-- n cells from o on -/
def Blk.range (b : Blk) (o n : Nat) : Option (List V) :=
  if o + n ≤ b.size then some ((b.cells.drop o).take n) else none
def intsOf (k : IntKind) : List V → Option (List Int)
  | [] => some []
  | .int k' n :: l => if k' = k then (intsOf k l).map (n :: ·) else none
  | _ => none
def over {α : Type} (l : List α) (o : Nat) (xs : List α) : List α := l.take o ++ xs ++ l.drop (o + xs.length)
/-- write cells from o on: the block must be the call's own -/
def Blk.put (b : Blk) (o : Nat) (xs : List V) : Option Blk :=
  match b with
  | .row c e true => if o + xs.length ≤ c.length then some (.row (over c o xs) e true) else none
  | .ints k l true => (intsOf k xs).bind fun ys => if o + ys.length ≤ l.length then some (.ints k (over l o ys) true) else none
  | _ => none
/-- a new block of the call's own: whole numbers where the element is one -/
def mkBlk (ik : Option IntKind) (esz : Nat) (c : List V) : Option Blk :=
  match ik with
  | some k => if esz = 1 then (intsOf k c).map fun l => .ints k l true else none
  | none => some (.row c esz true)

/-- the cells z again and again -/
def tile (z : List V) (n : Nat) : List V := (List.range n).map fun i => z.getD (i % z.length) undefV

inductive X where
  | t (i : Nat)
  | k (v : V)
abbrev Env := Nat → V
def X.ev (e : Env) : X → V
  | .t i => e i
  | .k v => v
def set (e : Env) (d : Nat) (v : V) : Env := fun t => if t = d then v else e t
def put (e : Env) (d : Option Nat) (v : V) : Env := match d with | some d => set e d v | none => e

inductive I where
  | mov (x : X)
  | pick (c a b : X)
  | alloc (z : List V)
  | box (x : X)
  | bld (z : List V) (parts : List (Nat × Nat × X))
  | bldS (len esz : Nat) (ik : Option IntKind) (z : List V) (parts : List (Nat × Nat × X))
  | load (agg : Option Nat) (x : X)
  | store (sz : Nat) (x y : X)
  | nilchk (x : X)
  | bin (op : BinOp) (cl : List Nat) (x y : X)
  | un (op : UnOp) (x : X)
  | toInt (k : IntKind) (x : X)
  | s2b (x : X)
  | b2s (x : X)
  | i2s (x : X)
  | idn (x : X)
  | mk (esz eb : Nat) (ik : Option IntKind) (z : List V) (l c : X)
  | subS (x : X) (lo hi : Option X)
  | subL (esz : Nat) (x : X) (lo hi mx : Option X)
  | subA (n esz : Nat) (x : X) (lo hi mx : Option X)
  | fadr (off : Nat) (x : X)
  | fld (off : Nat) (agg : Option Nat) (x : X)
  | iadrL (esz : Nat) (x i : X)
  | iadrA (n esz : Nat) (x i : X)
  | idxS (x i : X)
  | idxA (n esz : Nat) (agg : Option Nat) (x i : X)
  | ext (x : X) (i : Nat)
  | clo (f : Nat) (fs cs : List X)
  | ifc (t : Nat) (x : X)
  | lenS (x : X)
  | lenL (x : X)
  | lenK (n : Nat)
  | mm (isMax : Bool) (xs : List X)
  | app (esz eb : Nat) (ik : Option IntKind) (x y : X)
  | copy (esz : Nat) (x y : X)
  | call (f : Nat) (xs : List X)
  | callv (x : X) (xs : List X)
  | rng (x : X)
  | nxt (x : X)
  | bad
structure O where
  dst : Option Nat
  op : I
  guard : Option (Nat × Bool)
  pre : Nat
  iso : Bool
inductive C where
  | skip
  | reg (draw : Bool) (ops : List O)
  | seq (a b : C)
  | cond (x : X) (a b : C)
  | blk (id : Nat) (a : C)
  | loop (a : C)
  | exit (id : Nat)
  | ret
  | bad
inductive R where
  | tmp (t : Nat)
  | cell (t : Nat) (agg : Option Nat)
structure F where
  nt : Nat
  np : Nat
  body : C
  res : List R

/-! ### The operations -/
def bytesLess : List UInt8 → List UInt8 → Bool := Go.Op.bytesLess
def evInt (op : BinOp) (k : IntKind) (a b : Int) : Option V :=
  match op with
  | .add => some (.int k (k.wrap (a + b)))
  | .sub => some (.int k (k.wrap (a - b)))
  | .mul => some (.int k (k.wrap (a * b)))
  | .quo => if b = 0 then none else some (.int k (k.wrap (a.tdiv b)))
  | .rem => if b = 0 then none else some (.int k (a.tmod b))
  | .and => some (.int k (k.wrap (BitVec.ofInt k.bits a &&& BitVec.ofInt k.bits b).toNat))
  | .or => some (.int k (k.wrap (BitVec.ofInt k.bits a ||| BitVec.ofInt k.bits b).toNat))
  | .xor => some (.int k (k.wrap (BitVec.ofInt k.bits a ^^^ BitVec.ofInt k.bits b).toNat))
  | .andNot => some (.int k (k.wrap (BitVec.ofInt k.bits a &&& ~~~ BitVec.ofInt k.bits b).toNat))
  | .eql => some (.bool (a == b))
  | .neq => some (.bool (a != b))
  | .lss => some (.bool (decide (a < b)))
  | .leq => some (.bool (decide (a ≤ b)))
  | .gtr => some (.bool (decide (a > b)))
  | .geq => some (.bool (decide (a ≥ b)))
  | _ => none
def evShift (op : BinOp) (k : IntKind) (a b : Int) : Option V :=
  if b < 0 then none else
  match op with
  | .shl => some (.int k (k.wrap (a * 2 ^ (min b.toNat k.bits))))
  | .shr => some (.int k (a.fdiv (2 ^ (min b.toNat k.bits))))
  | _ => none
def evStr (op : BinOp) (a b : List UInt8) : Option V :=
  match op with
  | .add => if a.length + b.length ≤ 140737488351232 then some (.str (a ++ b)) else none
  | .eql => some (.bool (a == b))
  | .neq => some (.bool (!(a == b)))
  | .lss => some (.bool (bytesLess a b))
  | .leq => some (.bool (bytesLess a b || a == b))
  | .gtr => some (.bool (!(bytesLess a b || a == b)))
  | .geq => some (.bool (!(bytesLess a b)))
  | _ => none
/-- two cells of one plain type: 1 bool, 2 a whole number, 3 a string -/
def eqCell : Nat → V → V → Option Bool
  | 2, .int k a, .int k' b => if k = k' then some (a == b) else none
  | 1, .bool a, .bool b => some (a == b)
  | 3, .str a, .str b => some (a == b)
  | _, _, _ => none
def eqCells : List Nat → List V → List V → Option Bool
  | [], [], [] => some true
  | k :: ks, x :: xs, y :: ys => (eqCell k x y).bind fun e => (eqCells ks xs ys).map (e && ·)
  | _, _, _ => none
/-- cl: 1 bool, 2 pointer, 3 slice, 4 function, 5 interface, 6 struct or array of plain cells -/
def evEq : List Nat → V → V → Option Bool
  | [1], .bool a, .bool b => some (a == b)
  | 6 :: ks, .agg xs, .agg ys => eqCells ks xs ys
  | [2], .nilp, .nilp => some true
  | [2], .nilp, .ptr _ _ => some false
  | [2], .ptr _ _, .nilp => some false
  | [3], .nils, .nils => some true
  | [3], .nils, .sl _ _ _ cap _ => if cap = 0 then none else some false
  | [3], .sl _ _ _ cap _, .nils => if cap = 0 then none else some false
  | [4], .nilf, .nilf => some true
  | [4], .nilf, .clo .. => some false
  | [4], .clo .., .nilf => some false
  | [5], .nili, .ifc .. => some false
  | [5], .ifc .., .nili => some false
  | _, _, _ => none
def evBin (op : BinOp) (cl : List Nat) (x y : V) : Option V :=
  match x, y with
  | .int k a, .int k' b =>
    if op = .shl ∨ op = .shr then evShift op k a b else if k = k' then evInt op k a b else none
  | .str a, .str b => evStr op a b
  | x, y => match op with
    | .eql => (evEq cl x y).map .bool
    | .neq => (evEq cl x y).map fun b => .bool !b
    | _ => none
def evUn (op : UnOp) (x : V) : Option V :=
  match op, x with
  | .neg, .int k n => some (.int k (k.wrap (0 - n)))
  | .xor, .int k n => some (.int k (k.wrap (BitVec.ofInt k.bits (if k.signed then -1 else k.max) ^^^ BitVec.ofInt k.bits n).toNat))
  | .not, .bool b => some (.bool !b)
  | _, _ => none
def fillV (c : List V) : List (Nat × Nat × V) → Option (List V)
  | [] => some c
  | (off, sz, v) :: r => if v.cells.length = sz ∧ off + sz ≤ c.length then fillV (over c off v.cells) r else none
def partV (c : List V) (off : Nat) : Option Nat → Option V
  | none => c[off]?
  | some n => if off + n ≤ c.length then some (.agg ((c.drop off).take n)) else none
def natOf : V → Option Nat
  | .int _ n => if 0 ≤ n then some n.toNat else none
  | _ => none
def bytesOf : List V → Option (List UInt8)
  | [] => some []
  | .int .u8 n :: l => (bytesOf l).map (UInt8.ofNat n.toNat :: ·)
  | _ => none
def strCells (s : List UInt8) : List V := s.map fun b => .int .u8 b.toNat
/-- a bound: none stands for d -/
def bndOf (e : Env) (x : Option X) (d : Nat) : Option Nat :=
  match x with
  | none => some d
  | some x => natOf (x.ev e)
def mm2 (isMax : Bool) : V → V → Option V
  | .int k x, .int k' y => if k = k' then some (.int k (if isMax then (if y > x then y else x) else (if y < x then y else x))) else none
  | _, _ => none
def mmAll (isMax : Bool) : V → List V → Option V
  | v, [] => some v
  | v, x :: xs => (mm2 isMax v x).bind fun v => mmAll isMax v xs
/-- the cells of what is appended or copied: n elements -/
def srcCells (H : Heap) (esz n : Nat) : V → Option (List V)
  | .nils => some []
  | .str s => if esz = 1 then some ((strCells s).take n) else none
  | .sl m o len _ _ => if n ≤ len then (if n = 0 then some [] else (H m).bind fun b => b.range o (n * esz)) else none
  | _ => none
def lenV : V → Option Nat
  | .nils => some 0
  | .str s => some s.length
  | .sl _ _ len _ _ => some len
  | _ => none
def joinBlk (ik : Option IntKind) (esz : Nat) (b : Blk) (ys : List V) : Option Blk := mkBlk ik esz (b.cells ++ ys)
def evApp (H : Heap) (p : Nm) (esz eb : Nat) (ik : Option IntKind) (x y : V) : Option (V × Upd) :=
  (lenV y).bind fun n => (srcCells H esz n y).bind fun ys =>
  match x with
  | .nils => if n = 0 then some (.nils, []) else
      if n * eb ≤ 140737488351232 then (mkBlk ik esz ys).map fun b => (.sl p 0 n n true, [(p, some b)]) else none
  | .sl m o len cap opn =>
    if ¬ (len ≤ cap) then none else
    if n = 0 then some (x, []) else
    if ¬ ((len + n) * eb ≤ 140737488351232) then none else
    (if opn then (if o = 0 ∧ len = cap then (H m).bind fun b => if b.size = len * esz ∧ b.own ∧ b.esz = esz then
          (joinBlk ik esz b ys).map fun b' => (.sl p 0 (len + n) (len + n) true, [(p, some b'), (m, none)]) else none else none)
     else if len + n ≤ cap then (H m).bind fun b => (b.put (o + len * esz) ys).map fun b' => (.sl m o (len + n) cap false, [(m, some b')])
     else (if len = 0 then some [] else (H m).bind fun b => b.range o (len * esz)).bind fun old => (mkBlk ik esz (old ++ ys)).map fun b' => (.sl p 0 (len + n) (len + n) true, [(p, some b')]))
  | _ => none
abbrev CallF := Nat → List V → Nm → Heap → Option (V × Upd)
def aggLoad (b : Blk) (o : Nat) : Option Nat → Option V
  | none => b.get o
  | some n => (b.range o n).map .agg
def evI (call : CallF) (e : Env) (H : Heap) (p : Nm) : I → Option (V × Upd)
  | .mov x => some (x.ev e, [])
  | .pick c a b => match c.ev e with | .bool t => some (if t then a.ev e else b.ev e, []) | _ => none
  | .alloc z => some (.ptr p 0, [(p, some (.row z 0 true))])
  | .box x => some (.ptr p 0, [(p, some (.row (x.ev e).cells 0 true))])
  | .bld z parts => (fillV z (parts.map fun q => (q.1, q.2.1, q.2.2.ev e))).map fun c => (.agg c, [])
  | .bldS len esz ik z parts => (fillV z (parts.map fun q => (q.1, q.2.1, q.2.2.ev e))).bind fun c => (mkBlk ik esz c).map fun b => (.sl p 0 len len false, [(p, some b)])
  | .load agg x => match x.ev e with | .ptr n o => (H n).bind fun b => (aggLoad b o agg).map fun v => (v, []) | _ => none
  | .store sz x y => match x.ev e with
    | .ptr n o => if (y.ev e).cells.length = sz then (H n).bind fun b => (b.put o (y.ev e).cells).map fun b' => (undefV, [(n, some b')]) else none
    | _ => none
  | .nilchk x => match x.ev e with | .ptr n o => some (.ptr n o, []) | _ => none
  | .bin op cl x y => (evBin op cl (x.ev e) (y.ev e)).map fun v => (v, [])
  | .un op x => (evUn op (x.ev e)).map fun v => (v, [])
  | .toInt k x => match x.ev e with | .int _ n => some (.int k (k.wrap n), []) | _ => none
  | .s2b x => match x.ev e with
    | .str s => if s.length ≤ 140737488351232 then some (.sl p 0 s.length s.length true, [(p, some (.ints .u8 (s.map fun b => (b.toNat : Int)) false))]) else none
    | _ => none
  | .b2s x => match x.ev e with
    | .nils => some (.str [], [])
    | .sl m o len _ _ => if len = 0 then some (.str [], []) else (H m).bind fun b => (b.range o len).bind fun c => (bytesOf c).map fun s => (.str s, [])
    | _ => none
  | .i2s x => match x.ev e with | .int _ n => some (.str (Utf8.encode n).data.toList, []) | _ => none
  | .idn x => match x.ev e with | .str s => some (.str s, []) | _ => none
  | .mk esz eb ik z l c => (natOf (l.ev e)).bind fun l => (natOf (c.ev e)).bind fun c =>
      if l ≤ c ∧ eb * c ≤ 140737488351232 then (mkBlk ik esz (tile z (c * esz))).map fun b => (.sl p 0 l c false, [(p, some b)]) else none
  | .subS x lo hi => match x.ev e with
    | .str s => (bndOf e hi s.length).bind fun h => (bndOf e lo 0).bind fun l => if l ≤ h ∧ h ≤ s.length then some (.str ((s.take h).drop l), []) else none
    | _ => none
  | .subL esz x lo hi mx => match x.ev e with
    | .nils => (bndOf e hi 0).bind fun h => (bndOf e lo 0).bind fun l => (bndOf e mx 0).bind fun m => if l = 0 ∧ h = 0 ∧ m = 0 then some (.nils, []) else none
    | .sl n o len cap opn => (bndOf e mx cap).bind fun m => (bndOf e hi len).bind fun h => (bndOf e lo 0).bind fun l =>
      if ¬ (l ≤ h ∧ h ≤ m ∧ m ≤ cap) then none else
      if opn ∧ mx.isNone then (if l = 0 then some (.sl n o h cap true, []) else (H n).bind fun b => if b.own ∧ b.esz = esz then some (.sl n (o + l * esz) (h - l) (cap - l) true, []) else none)
      else some (.sl n (if m = l then o else o + l * esz) (h - l) (m - l) false, [])
    | _ => none
  | .subA n esz x lo hi mx => match x.ev e with
    | .ptr b o => (bndOf e mx n).bind fun m => (bndOf e hi n).bind fun h => (bndOf e lo 0).bind fun l =>
      if l ≤ h ∧ h ≤ m ∧ m ≤ n then some (.sl b (if m = l then o else o + l * esz) (h - l) (m - l) false, []) else none
    | _ => none
  | .fadr off x => match x.ev e with | .ptr n o => some (.ptr n (o + off), []) | _ => none
  | .fld off agg x => match x.ev e with | .agg c => (partV c off agg).map fun v => (v, []) | _ => none
  | .iadrL esz x i => match x.ev e with
    | .sl n o len _ _ => (natOf (i.ev e)).bind fun i => if i < len then some (.ptr n (o + i * esz), []) else none
    | _ => none
  | .iadrA n esz x i => match x.ev e with
    | .ptr b o => (natOf (i.ev e)).bind fun i => if i < n then some (.ptr b (o + i * esz), []) else none
    | _ => none
  | .idxS x i => match x.ev e with
    | .str s => (natOf (i.ev e)).bind fun i => (s[i]?).map fun b => (.int .u8 b.toNat, [])
    | _ => none
  | .idxA n esz agg x i => match x.ev e with
    | .agg c => (natOf (i.ev e)).bind fun i => if i < n then (partV c (i * esz) agg).map fun v => (v, []) else none
    | _ => none
  | .ext x i => match x.ev e with | .tup l => (l[i]?).map fun v => (v, []) | _ => none
  | .clo f fs cs => some (.clo f (fs.map (X.ev e)) (cs.map (X.ev e)), [])
  | .ifc t x => some (.ifc t (x.ev e), [])
  | .lenS x => match x.ev e with | .str s => some (.int .i64 s.length, []) | _ => none
  | .lenL x => match x.ev e with | .nils => some (.int .i64 0, []) | .sl _ _ len _ _ => some (.int .i64 len, []) | _ => none
  | .lenK n => some (.int .i64 n, [])
  | .mm isMax xs => match xs with | [] => none | x :: xs => (mmAll isMax (x.ev e) (xs.map (X.ev e))).map fun v => (v, [])
  | .app esz eb ik x y => evApp H p esz eb ik (x.ev e) (y.ev e)
  | .copy esz x y => (lenV (y.ev e)).bind fun n => match x.ev e with
    | .nils => some (.int .i64 0, [])
    | .sl m o len _ _ => if min n len = 0 then some (.int .i64 0, []) else
        (srcCells H esz (min n len) (y.ev e)).bind fun c => (H m).bind fun b => (b.put o c).map fun b' => (.int .i64 (min n len : Nat), [(m, some b')])
    | _ => none
  | .call f xs => call f (xs.map (X.ev e)) p H
  | .callv x xs => match x.ev e with | .clo f fs cs => call f (fs ++ xs.map (X.ev e) ++ cs) p H | _ => none
  | .rng x => match x.ev e with | .str s => some (.ptr p 0, [(p, some (.iter s 0))]) | _ => none
  | .nxt x => match x.ev e with
    | .ptr n 0 => (H n).bind fun b => match b with
      | .iter s pos => if pos < s.length then
          some (.tup [.bool true, .int .i64 pos, .int .i32 (Utf8.decode ⟨s.toArray⟩ pos).1], [(n, some (.iter s (pos + (Utf8.decode ⟨s.toArray⟩ pos).2)))])
        else some (.tup [.bool false], [])
      | _ => none
    | _ => none
  | .bad => none

/-! ### Regions, code, calls -/
structure St where
  env : Env
  u : Upd
inductive Ex where
  | norm | exit (id : Nat) | ret
  deriving DecidableEq
def wantedV (e : Env) : Option (Nat × Bool) → Bool
  | none => true
  | some (t, b) => match e t with | .bool c => c == b | _ => false
/-- is the name under the road p? -/
def under (p n : Nm) : Bool := p.isSuffixOf n
def quiet (p : Nm) (u : Upd) : Bool := u.all fun q => under p q.1
/-- in the text's order -/
def regT (call : CallF) (H : Heap) (p : Nm) : Nat → List O → St → Option St
  | _, [], s => some s
  | i, o :: os, s =>
    if wantedV s.env o.guard then
      (evI call s.env (app H s.u) (i :: p) o.op).bind fun r => regT call H p (i + 1) os ⟨put s.env o.dst r.1, r.2 ++ s.u⟩
    else regT call H p (i + 1) os ⟨put s.env o.dst undefV, s.u⟩
/-- what the operations that o waits for have written -/
def sel (m : Nat) : List (Nat × Upd) → Upd
  | [] => []
  | (j, u) :: us => if m.testBit j then u ++ sel m us else sel m us
def allU : List (Nat × Upd) → Upd
  | [] => []
  | (_, u) :: us => u ++ allU us
/-- what is written is either new or was there -/
def tidy (H : Heap) (p : Nm) (u : Upd) : Bool := u.all fun q => under p q.1 || (H q.1).isSome
/-- in an open order: each operation sees only what it waits for -/
def regD (call : CallF) (H : Heap) (p : Nm) : Nat → List O → Env → List (Nat × Upd) → Option (Env × List (Nat × Upd))
  | _, [], e, us => some (e, us)
  | i, o :: os, e, us =>
    if wantedV e o.guard then
      (evI call e (app H (sel o.pre us)) (i :: p) o.op).bind fun r =>
        if quiet (i :: p) r.2 || (o.iso && tidy (app H (sel o.pre us)) (i :: p) r.2) then regD call H p (i + 1) os (put e o.dst r.1) ((i, r.2) :: us) else none
    else regD call H p (i + 1) os (put e o.dst undefV) us
abbrev Iter := (Nat → St → Option (Ex × St)) → Nat → St → Option (Ex × St)
def itN : Nat → Iter
  | 0, _, _, _ => none
  | k + 1, f, j, s => (f j s).bind fun r => match r.1 with | .norm => itN k f (j + 1) r.2 | _ => some r
def den (call : CallF) (it : Iter) (H : Heap) : C → Nm → St → Option (Ex × St)
  | .skip, _, s => some (.norm, s)
  | .reg false ops, p, s => (regT call H p 0 ops s).map fun s => (.norm, s)
  | .reg true ops, p, s => (regD call (app H s.u) p 0 ops s.env []).map fun r => (.norm, ⟨r.1, allU r.2 ++ s.u⟩)
  | .seq a b, p, s => (den call it H a (0 :: p) s).bind fun r => match r.1 with | .norm => den call it H b (1 :: p) r.2 | _ => some r
  | .cond x a b, p, s => match x.ev s.env with
    | .bool t => if t then den call it H a (0 :: p) s else den call it H b (1 :: p) s
    | _ => none
  | .blk id a, p, s => (den call it H a (0 :: p) s).map fun r => if r.1 = .exit id then (.norm, r.2) else r
  | .loop a, p, s => it (fun j s => den call it H a (j :: p) s) 0 s
  | .exit id, _, s => some (.exit id, s)
  | .ret, _, s => some (.ret, s)
  | .bad, _, _ => none

def resV (e : Env) (H : Heap) : R → Option V
  | .tmp t => some (e t)
  | .cell t agg => match e t with | .ptr n o => (H n).bind fun b => aggLoad b o agg | _ => none
def resAll (e : Env) (H : Heap) : List R → Option (List V)
  | [] => some []
  | r :: rs => (resV e H r).bind fun v => (resAll e H rs).map (v :: ·)
def one : List V → V
  | [v] => v
  | l => .tup l
def body (call : CallF) (it : Iter) (f : F) (args : List V) (p : Nm) (H : Heap) : Option (V × Upd) :=
  if args.length = f.np then
    (den call it H f.body (0 :: p) ⟨fun t => args.getD t undefV, []⟩).bind fun r =>
      match r.1 with
      | .exit _ => none
      | _ => (resAll r.2.env (app H r.2.u) f.res).map fun l => (one l, r.2.u)
  else none
def callN (ir : Nat → Option F) : Nat → CallF
  | 0, _, _, _, _ => none
  | k + 1, f, args, p, H => (ir f).bind fun fn => body (callN ir k) (itN k) fn args p H
end Go.Proofs.YtalnnbokmpppjaaAb
