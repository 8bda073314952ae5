/- The functional machine: a call's arguments and results are trees of values; a call's own blocks have small names. -/
import Derived.Test.YtalnnbokmpppjaaAbOrder
namespace Go.Proofs.YtalnnbokmpppjaaAb
open Go
set_option linter.unusedVariables false

inductive FV where
  | int (k : IntKind) (n : Int)
  | bool (b : Bool)
  | str (s : List UInt8)
  | nilp | nilf | nili
  /-- undefined -/
  | bad
  /-- the empty slice without room -/
  | emp
  /-- a slice that is not written: n elements, their cells -/
  | lst (n : Nat) (c : List FV)
  /-- a pointer into cells that are not written -/
  | tp (c : List FV) (o : Nat)
  /-- the bytes of a string -/
  | bys (s : List UInt8)
  /-- a slice that is handed over -/
  | own (ik : Option IntKind) (esz n : Nat) (c : List FV)
  /-- a pointer that is handed over -/
  | optr (ik : Option IntKind) (esz : Nat) (c : List FV)
  /-- parts of what was handed in -/
  | aref (k o n : Nat)
  | aptr (k o : Nat)
  /-- a part of an own block -/
  | ref (d g o n : Nat)
  | ptr (d g o : Nat)
  | agg (l : List FV)
  | tup (l : List FV)
  | clo (f : Nat) (fs cs : List FV)
  | ifc (t : Nat) (v : FV)
  deriving Inhabited
/-- a block: g its age, fz: not written any more, tr: its cells are trees -/
inductive FB where
  | row (g : Nat) (fz tr : Bool) (ik : Option IntKind) (esz : Nat) (c : List FV)
  | iter (g : Nat) (s : List UInt8) (pos : Nat)
def FB.g : FB → Nat
  | .row g _ _ _ _ _ => g
  | .iter g _ _ => g
abbrev FHeap := Nat → Option FB
abbrev FUpd := List (Nat × Option FB)
def flook : FUpd → Nat → Option (Option FB)
  | [], _ => none
  | (m, b) :: u, n => if n = m then some b else flook u n
def fapp (L : FHeap) (u : FUpd) : FHeap := fun n => match flook u n with | some b => b | none => L n
def fundef : FV := .tup []

def ofS : V → FV
  | .int k n => .int k n
  | .bool b => .bool b
  | .str s => .str s
  | .nilp => .nilp
  | .nils => .emp
  | .nilf => .nilf
  | .nili => .nili
  | .clo f [] [] => .clo f [] []
  | _ => .bad
def ofV : V → FV
  | .agg l => .agg (l.map ofS)
  | .tup [] => .tup []
  | v => ofS v
abbrev FEnv := Nat → FV
def X.fv (e : FEnv) : X → FV
  | .t i => e i
  | .k v => ofV v
def fset (e : FEnv) (d : Nat) (v : FV) : FEnv := fun t => if t = d then v else e t
def fput (e : FEnv) (d : Option Nat) (v : FV) : FEnv := match d with | some d => fset e d v | none => e
def FV.cells : FV → Option (List FV)
  | .agg l => some l
  | .tup _ => some []
  | .bad => none
  | v => some [v]
/-- a cell that is a tree by itself -/
def FV.leaf : FV → Bool
  | .int _ _ | .bool _ | .str _ | .nilp | .nilf | .nili | .emp | .lst _ _ | .tp _ _ => true
  | .clo _ [] [] => true
  | _ => false
/-- the cells of a live block -/
def rowOf (L : FHeap) (d g : Nat) : Option (Bool × Bool × Option IntKind × Nat × List FV) :=
  match L d with
  | some (.row g' fz tr ik esz c) => if g' = g then some (fz, tr, ik, esz, c) else none
  | _ => none
def aggF (c : List FV) (o : Nat) : Option Nat → Option FV
  | none => c[o]?
  | some n => if o + n ≤ c.length then some (.agg ((c.drop o).take n)) else none
/-- may these cells lie in a block of this kind? -/
def kindOK : Option IntKind → List FV → Bool
  | none, _ => true
  | some k, c => c.all fun v => match v with | .int k' _ => decide (k' = k) | _ => false

/-! ### Trees: what a value looks like from outside; the blocks that are met -/
mutual
def fz (L : FHeap) : Nat → FV → Option (FV × List Nat)
  | 0, _ => none
  | k + 1, v => match v with
    | .int _ _ | .bool _ | .str _ | .nilp | .nilf | .nili | .lst _ _ | .tp _ _ => some (v, [])
    | .emp => some (.lst 0 [], [])
    | .ref d g o n => (rowOf L d g).bind fun r =>
        if o + n * r.2.2.2.1 ≤ r.2.2.2.2.length then
          if r.2.1 then some (.lst n ((r.2.2.2.2.drop o).take (n * r.2.2.2.1)), [d])
          else (fzL L k ((r.2.2.2.2.drop o).take (n * r.2.2.2.1))).map fun q => (.lst n q.1, d :: q.2)
        else none
    | .ptr d g o => (rowOf L d g).bind fun r =>
        if r.2.1 then some (.tp r.2.2.2.2 o, [d]) else (fzL L k r.2.2.2.2).map fun q => (.tp q.1 o, d :: q.2)
    | .agg l => (fzL L k l).map fun q => (.agg q.1, q.2)
    | .tup l => (fzL L k l).map fun q => (.tup q.1, q.2)
    | .clo f a b => (fzL L k a).bind fun x => (fzL L k b).map fun y => (.clo f x.1 y.1, x.2 ++ y.2)
    | .ifc t v => (fz L k v).map fun q => (.ifc t q.1, q.2)
    | _ => none
def fzL (L : FHeap) : Nat → List FV → Option (List FV × List Nat)
  | 0, _ => none
  | _ + 1, [] => some ([], [])
  | k + 1, v :: l => (fz L k v).bind fun q => (fzL L k l).map fun r => (q.1 :: r.1, q.2 ++ r.2)
end
def fuel : Nat := 1000
/-- the blocks that are met are not written any more -/
def freeze (L : FHeap) : List Nat → FUpd
  | [] => []
  | d :: ds => match L d with
    | some (.row g _ tr ik esz c) => (d, some (.row g true tr ik esz c)) :: freeze L ds
    | _ => freeze L ds
/-- cells as they may lie in a block of trees; the blocks that are met -/
def trees (L : FHeap) (tr : Bool) (c : List FV) : Option (List FV × List Nat) := if tr then some (c, []) else fzL L fuel c
/-- the cells of n elements of a slice -/
def srcF (L : FHeap) (esz n : Nat) : FV → Option (List FV × List Nat)
  | .emp => if n = 0 then some ([], []) else none
  | .str s => if esz = 1 ∧ n ≤ s.length then some ((s.take n).map fun b => .int .u8 b.toNat, []) else none
  | .bys s => if esz = 1 ∧ n ≤ s.length then some ((s.take n).map fun b => .int .u8 b.toNat, []) else none
  | .lst m c => if n ≤ m ∧ m * esz = c.length then some (c.take (n * esz), []) else none
  | .ref d g o m => (rowOf L d g).bind fun r => if n ≤ m ∧ r.2.2.2.1 = esz ∧ o + m * esz ≤ r.2.2.2.2.length then trees L r.2.1 ((r.2.2.2.2.drop o).take (n * esz)) else none
  | _ => none
def lenF : FV → Option Nat
  | .emp => some 0
  | .lst n _ => some n
  | .ref _ _ _ n => some n
  | .str s => some s.length
  | .bys s => some s.length
  | _ => none

/-! ### Operations -/
abbrev FR := Option (FV × FUpd)
def dryF (o : Option FV) : FR := o.map fun v => (v, [])
def fPick : FV → FV → FV → Option FV
  | .bool t, a, b => some (if t then a else b)
  | _, _, _ => none
def fFill (c : List FV) : List (Nat × Nat × FV) → Option (List FV)
  | [] => some c
  | (off, sz, v) :: r => v.cells.bind fun w => if w.length = sz ∧ off + sz ≤ c.length then fFill (over c off w) r else none
def fLoad (L : FHeap) (g : Option Nat) : FV → Option FV
  | .ptr d a o => (rowOf L d a).bind fun r => aggF r.2.2.2.2 o g
  | .tp c o => aggF c o g
  | _ => none
def fStore (L : FHeap) (sz : Nat) : FV → FV → FR
  | .ptr d g o, y => y.cells.bind fun w => if w.length = sz then (rowOf L d g).bind fun r =>
      if r.1 = false ∧ o + sz ≤ r.2.2.2.2.length then
        (if r.2.1 then trees L (w.all FV.leaf) w else some (w, [])).bind fun q =>
          if kindOK r.2.2.1 q.1 ∧ d ∉ q.2 then some (fundef, (d, some (.row g false r.2.1 r.2.2.1 r.2.2.2.1 (over r.2.2.2.2 o q.1))) :: freeze L q.2) else none
      else none
    else none
  | _, _ => none
def fNil : FV → Option FV
  | .ptr d g o => some (.ptr d g o)
  | .tp c o => some (.tp c o)
  | _ => none
/-- a plain value as the abstract machine has it -/
def FV.toS : FV → Option V
  | .int k n => some (.int k n)
  | .bool b => some (.bool b)
  | .str s => some (.str s)
  | _ => none
def toSL : List FV → Option (List V)
  | [] => some []
  | v :: l => v.toS.bind fun x => (toSL l).map (x :: ·)
def fEq (cl : List Nat) : FV → FV → Option Bool
  | .bool a, .bool b => if cl = [1] then some (a == b) else none
  | .agg xs, .agg ys => match cl with | 6 :: ks => (toSL xs).bind fun xs => (toSL ys).bind fun ys => eqCells ks xs ys | _ => none
  | .nilp, .nilp => if cl = [2] then some true else none
  | .nilp, .ptr _ _ _ => if cl = [2] then some false else none
  | .ptr _ _ _, .nilp => if cl = [2] then some false else none
  | .nilp, .tp _ _ => if cl = [2] then some false else none
  | .tp _ _, .nilp => if cl = [2] then some false else none
  | .nilf, .nilf => if cl = [4] then some true else none
  | .nilf, .clo _ _ _ => if cl = [4] then some false else none
  | .clo _ _ _, .nilf => if cl = [4] then some false else none
  | .nili, .ifc _ _ => if cl = [5] then some false else none
  | .ifc _ _, .nili => if cl = [5] then some false else none
  | _, _ => none
def sOf : Option V → Option FV
  | some v => some (ofS v)
  | none => none
def fBin (op : BinOp) (cl : List Nat) : FV → FV → Option FV
  | .int k a, .int k' b => if op = .shl ∨ op = .shr then sOf (evShift op k a b) else if k = k' then sOf (evInt op k a b) else none
  | .str a, .str b => sOf (evStr op a b)
  | x, y => match op with
    | .eql => (fEq cl x y).map .bool
    | .neq => (fEq cl x y).map fun b => .bool !b
    | _ => none
def fUn (op : UnOp) (x : FV) : Option FV := x.toS.bind fun x => sOf (evUn op x)
def fInt (k : IntKind) : FV → Option FV
  | .int _ n => some (.int k (k.wrap n))
  | _ => none
def fNat : FV → Option Nat
  | .int _ n => if 0 ≤ n then some n.toNat else none
  | _ => none
def fBnd (x : Option FV) (d : Nat) : Option Nat := match x with | none => some d | some v => fNat v
def fBytes : List FV → Option (List UInt8)
  | [] => some []
  | .int .u8 n :: l => (fBytes l).map (UInt8.ofNat n.toNat :: ·)
  | _ => none
def fB2s (L : FHeap) : FV → Option FV
  | .emp => some (.str [])
  | .bys s => some (.str s)
  | .lst n c => if n = c.length then (fBytes c).map .str else none
  | .ref d g o n => (rowOf L d g).bind fun r => if r.2.2.2.1 = 1 ∧ o + n ≤ r.2.2.2.2.length then (fBytes ((r.2.2.2.2.drop o).take n)).map .str else none
  | _ => none
def fSubS : FV → Option FV → Option FV → Option FV
  | .str s, lo, hi => (fBnd hi s.length).bind fun h => (fBnd lo 0).bind fun l => if l ≤ h ∧ h ≤ s.length then some (.str ((s.take h).drop l)) else none
  | _, _, _ => none
def fSubL (L : FHeap) (esz : Nat) (x : FV) (lo hi mx : Option FV) : Option FV :=
  match x with
  | .emp => (fBnd hi 0).bind fun h => (fBnd lo 0).bind fun l => (fBnd mx 0).bind fun m => if l = 0 ∧ h = 0 ∧ m = 0 then some .emp else none
  | .lst n c => (fBnd mx n).bind fun m => (fBnd hi n).bind fun h => (fBnd lo 0).bind fun l =>
      if l ≤ h ∧ h ≤ m ∧ m ≤ n ∧ n * esz = c.length then some (.lst (h - l) ((c.take (h * esz)).drop (l * esz))) else none
  | .ref d g o n => (rowOf L d g).bind fun r => (fBnd mx n).bind fun m => (fBnd hi n).bind fun h => (fBnd lo 0).bind fun l =>
      if r.2.2.2.1 = esz ∧ l ≤ h ∧ h ≤ m ∧ m ≤ n then some (.ref d g (o + l * esz) (h - l)) else none
  | _ => none
def fFadr (off : Nat) : FV → Option FV
  | .ptr d g o => some (.ptr d g (o + off))
  | .tp c o => some (.tp c (o + off))
  | _ => none
def fFld (off : Nat) (g : Option Nat) : FV → Option FV
  | .agg c => aggF c off g
  | _ => none
def fIadrL (L : FHeap) (esz : Nat) : FV → FV → Option FV
  | .lst n c, i => (fNat i).bind fun i => if i < n then some (.tp c (i * esz)) else none
  | .bys s, i => (fNat i).bind fun i => if i < s.length ∧ esz = 1 then some (.tp (s.map fun b => .int .u8 b.toNat) i) else none
  | .ref d g o n, i => (fNat i).bind fun i => if i < n then some (.ptr d g (o + i * esz)) else none
  | _, _ => none
def fIadrA (n esz : Nat) : FV → FV → Option FV
  | .ptr d g o, i => (fNat i).bind fun i => if i < n then some (.ptr d g (o + i * esz)) else none
  | .tp c o, i => (fNat i).bind fun i => if i < n then some (.tp c (o + i * esz)) else none
  | _, _ => none
def fIdxS : FV → FV → Option FV
  | .str s, i => (fNat i).bind fun i => (s[i]?).map fun b => .int .u8 b.toNat
  | _, _ => none
def fIdxA (n esz : Nat) (g : Option Nat) : FV → FV → Option FV
  | .agg c, i => (fNat i).bind fun i => if i < n then aggF c (i * esz) g else none
  | _, _ => none
def fExt (i : Nat) : FV → Option FV
  | .tup l => l[i]?
  | _ => none
def fLenS : FV → Option FV
  | .str s => some (.int .i64 s.length)
  | _ => none
def fLenL : FV → Option FV
  | .emp => some (.int .i64 0)
  | .lst n _ => some (.int .i64 n)
  | .bys s => some (.int .i64 s.length)
  | .ref _ _ _ n => some (.int .i64 n)
  | _ => none
def fMm2 (isMax : Bool) : FV → FV → Option FV
  | .int k x, .int k' y => if k = k' then some (.int k (if isMax then (if y > x then y else x) else (if y < x then y else x))) else none
  | _, _ => none
def fMmAll (isMax : Bool) : FV → List FV → Option FV
  | v, [] => some v
  | v, x :: xs => (fMm2 isMax v x).bind fun v => fMmAll isMax v xs
def fNew (d g : Nat) (tr : Bool) (ik : Option IntKind) (esz l : Nat) (c : List FV) : FR :=
  if kindOK ik c then some (.ref d g 0 l, [(d, some (.row g false tr ik esz c))]) else none
def tileF (z : List FV) (n : Nat) : List FV := (List.range n).map fun i => z.getD (i % z.length) .bad
def fMk (d g esz eb : Nat) (ik : Option IntKind) (z : List FV) (l c : FV) : FR :=
  (fNat l).bind fun l => (fNat c).bind fun c => if l ≤ c ∧ eb * c ≤ 140737488351232 ∧ z.all FV.leaf ∧ 0 < esz ∧ (ik.isSome → esz = 1) then fNew d g true ik esz l (tileF z (c * esz)) else none
def fBldS (d g len esz : Nat) (ik : Option IntKind) (z : List FV) (parts : List (Nat × Nat × FV)) : FR :=
  (fFill z parts).bind fun c => if len * esz = c.length ∧ 0 < esz ∧ (ik.isSome → esz = 1) then (if len = 0 then some (.emp, []) else fNew d g (c.all FV.leaf) ik esz len c) else none
def fApp (L : FHeap) (d g esz eb : Nat) (ik : Option IntKind) (x y : FV) : FR :=
  (lenF y).bind fun n => (srcF L esz n y).bind fun ys =>
  if n = 0 then (match x with | .emp => some (x, []) | .lst _ _ => some (x, []) | .ref _ _ _ _ => some (x, []) | _ => none) else
  if 0 < esz ∧ (ik.isSome → esz = 1) ∧ kindOK ik ys.1 then
  match x with
  | .emp => if n * eb ≤ 140737488351232 then some (.ref d g 0 n, (d, some (.row g false true ik esz ys.1)) :: freeze L ys.2) else none
  | .ref d0 g0 o len => (rowOf L d0 g0).bind fun r => if r.1 = false ∧ o = 0 ∧ r.2.2.1 = ik ∧ r.2.2.2.1 = esz ∧ len * esz = r.2.2.2.2.length ∧ (len + n) * eb ≤ 140737488351232 then
      (trees L r.2.1 r.2.2.2.2).bind fun c => if kindOK ik c.1 ∧ d0 ∉ ys.2 ∧ d0 ∉ c.2 then some (.ref d g 0 (len + n), (d, some (.row g false true ik esz (c.1 ++ ys.1))) :: (d0, none) :: freeze L (ys.2 ++ c.2)) else none
    else none
  | _ => none
  else none
def fCopy (L : FHeap) (esz : Nat) (x y : FV) : FR :=
  (lenF y).bind fun n => match x with
    | .emp => some (.int .i64 0, [])
    | .ref d g o len => if min n len = 0 then some (.int .i64 0, []) else
        (srcF L esz (min n len) y).bind fun c => (rowOf L d g).bind fun r => if r.1 = false ∧ r.2.2.2.1 = esz ∧ o + c.1.length ≤ r.2.2.2.2.length ∧ kindOK r.2.2.1 c.1 ∧ d ∉ c.2 then
          some (.int .i64 (min n len : Nat), (d, some (.row g false r.2.1 r.2.2.1 esz (over r.2.2.2.2 o c.1))) :: freeze L c.2) else none
    | _ => none

/-! ### Calls: what is handed in, what is handed back -/
abbrev FCallF := Nat → List FV → Option (FV × List (Option (List FV)))
def drop1 (L : FHeap) (d : Nat) : FHeap := fun n => if n = d then none else L n
/-- the whole blocks of a value are handed over -/
def tk (L : FHeap) : FV → Option (FV × List (Nat × FB) × FHeap)
  | .ref d g o n => match L d with
    | some (.row g' fr tr ik esz c) => if g' = g ∧ fr = false ∧ o = 0 ∧ n * esz = c.length ∧ tr then some (.own ik esz n c, [(d, .row g fr tr ik esz c)], drop1 L d) else none
    | _ => none
  | .ptr d g o => match L d with
    | some (.row g' fr tr ik esz c) => if g' = g ∧ fr = false ∧ o = 0 then some (.optr ik esz c, [(d, .row g fr tr ik esz c)], drop1 L d) else none
    | _ => none
  | v => some (v, [], L)
def tkL (L : FHeap) : List FV → Option (List FV × List (Nat × FB) × FHeap)
  | [] => some ([], [], L)
  | v :: l => (tk L v).bind fun q => (tkL q.2.2 l).map fun r => (q.1 :: r.1, q.2.1 ++ r.2.1, r.2.2)
def tkA (L : FHeap) : FV → Option (FV × List (Nat × FB) × FHeap)
  | .agg l => (tkL L l).map fun q => (.agg q.1, q.2)
  | v => tk L v
/-- the arguments whose numbers are in m -/
def tkAll (m : List Nat) : Nat → FHeap → List FV → Option (List FV × List (Nat × FB) × FHeap)
  | _, L, [] => some ([], [], L)
  | i, L, v :: l => (if i ∈ m then tkA L v else some (v, [], L)).bind fun q => (tkAll m (i + 1) q.2.2 l).map fun r => (q.1 :: r.1, q.2.1 ++ r.2.1, r.2.2)
/-- trees, but for what is handed over -/
def fzO (L : FHeap) : FV → Option (FV × List Nat)
  | .own ik esz n c => some (.own ik esz n c, [])
  | .optr ik esz c => (trees L (c.all FV.leaf) c).map fun q => (.optr ik esz q.1, q.2)
  | v => fz L fuel v
def fzOL (L : FHeap) : List FV → Option (List FV × List Nat)
  | [] => some ([], [])
  | v :: l => (fzO L v).bind fun q => (fzOL L l).map fun r => (q.1 :: r.1, q.2 ++ r.2)
def fzA (L : FHeap) : FV → Option (FV × List Nat)
  | .agg l => (fzOL L l).map fun q => (.agg q.1, q.2)
  | v => fzO L v
def fzAL (L : FHeap) : List FV → Option (List FV × List Nat)
  | [] => some ([], [])
  | v :: l => (fzA L v).bind fun q => (fzAL L l).map fun r => (q.1 :: r.1, q.2 ++ r.2)
/-- nothing in it can be a part of what was read -/
def clean1 : FV → Bool
  | .int _ _ | .bool _ | .str _ | .nilp | .nilf | .nili | .emp | .aref _ _ _ | .aptr _ _ => true
  | .own (some _) _ _ _ => true
  | .clo _ [] [] => true
  | _ => false
def clean2 : FV → Bool
  | .agg l => l.all clean1
  | .optr _ _ c => c.all clean1
  | v => clean1 v
def clean : FV → Bool
  | .tup l => l.all clean2
  | v => clean2 v
def cleanO : List (Option (List FV)) → Bool
  | [] => true
  | none :: l => cleanO l
  | some c :: l => c.all clean1 && cleanO l
/-- the blocks handed over come back -/
def back : List (Nat × FB) → List (Option (List FV)) → Option FUpd
  | [], [] => some []
  | (d, .row g fr tr ik esz c) :: l, some c' :: os => if c'.length = c.length then (back l os).map ((d, some (.row g fr true ik esz c')) :: ·) else none
  | (d, _) :: l, none :: os => (back l os).map ((d, none) :: ·)
  | _, _ => none
def step : Nat := 4096
/-- own blocks get names: d + step * k, k counts -/
def th1 (ts : List (Nat × FB)) (d g k : Nat) : FV → Option (FV × FUpd × Nat)
  | .own ik esz n c => some (.ref (d + step * k) g 0 n, [(d + step * k, some (.row g false true ik esz c))], k + 1)
  | .optr ik esz c => some (.ptr (d + step * k) g 0, [(d + step * k, some (.row g false true ik esz c))], k + 1)
  | .aref j o n => (ts[j]?).map fun q => (.ref q.1 q.2.g o n, [], k)
  | .aptr j o => (ts[j]?).map fun q => (.ptr q.1 q.2.g o, [], k)
  | v => some (v, [], k)
def th1L (ts : List (Nat × FB)) (d g : Nat) : Nat → List FV → Option (List FV × FUpd × Nat)
  | k, [] => some ([], [], k)
  | k, v :: l => (th1 ts d g k v).bind fun q => (th1L ts d g q.2.2 l).map fun r => (q.1 :: r.1, q.2.1 ++ r.2.1, r.2.2)
def th2 (ts : List (Nat × FB)) (d g k : Nat) : FV → Option (FV × FUpd × Nat)
  | .agg l => (th1L ts d g k l).map fun q => (.agg q.1, q.2)
  | v => th1 ts d g k v
def th2L (ts : List (Nat × FB)) (d g : Nat) : Nat → List FV → Option (List FV × FUpd × Nat)
  | k, [] => some ([], [], k)
  | k, v :: l => (th2 ts d g k v).bind fun q => (th2L ts d g q.2.2 l).map fun r => (q.1 :: r.1, q.2.1 ++ r.2.1, r.2.2)
def th (ts : List (Nat × FB)) (d g : Nat) : FV → Option (FV × FUpd)
  | .tup l => (th2L ts d g 0 l).map fun q => (.tup q.1, q.2.1)
  | v => (th2 ts d g 0 v).map fun q => (q.1, q.2.1)
def frzOf (L : FHeap) : List Nat → Bool → FUpd
  | [], _ => []
  | v :: vs, c => if c then [] else freeze L (v :: vs)
/-- which arguments of which functions are handed over -/
abbrev Sg := Nat → List Nat
def fCall (call : FCallF) (sg : Sg) (L : FHeap) (d g : Nat) (f : Nat) (args : List FV) : FR :=
  (tkAll (sg f) 0 L args).bind fun t => (fzAL t.2.2 t.1).bind fun z => (call f z.1).bind fun r =>
  (back t.2.1 r.2).bind fun b => (th t.2.1 d g r.1).map fun h =>
    (h.1, h.2 ++ b ++ frzOf t.2.2 z.2 (clean r.1 && cleanO r.2))
def fNxt (L : FHeap) : FV → FR
  | .ptr d g 0 => match L d with
    | some (.iter g' s pos) => if g' = g then (if pos < s.length then
        some (.tup [.bool true, .int .i64 pos, .int .i32 (Utf8.decode ⟨s.toArray⟩ pos).1], [(d, some (.iter g s (pos + (Utf8.decode ⟨s.toArray⟩ pos).2)))])
        else some (.tup [.bool false], [])) else none
    | _ => none
  | _ => none
def fvI (call : FCallF) (sg : Sg) (e : FEnv) (L : FHeap) (d g : Nat) : I → FR
  | .mov x => dryF (some (x.fv e))
  | .pick c a b => dryF (fPick (c.fv e) (a.fv e) (b.fv e))
  | .alloc z => some (.ptr d g 0, [(d, some (.row g false false none 0 (z.map ofS)))])
  | .box x => (x.fv e).cells.map fun c => (.ptr d g 0, [(d, some (.row g false false none 0 c))])
  | .bld z parts => dryF ((fFill (z.map ofS) (parts.map fun q => (q.1, q.2.1, q.2.2.fv e))).map .agg)
  | .bldS len esz ik z parts => fBldS d g len esz ik (z.map ofS) (parts.map fun q => (q.1, q.2.1, q.2.2.fv e))
  | .load agg x => dryF (fLoad L agg (x.fv e))
  | .store sz x y => fStore L sz (x.fv e) (y.fv e)
  | .nilchk x => dryF (fNil (x.fv e))
  | .bin op cl x y => dryF (fBin op cl (x.fv e) (y.fv e))
  | .un op x => dryF (fUn op (x.fv e))
  | .toInt k x => dryF (fInt k (x.fv e))
  | .s2b x => dryF (match x.fv e with | .str s => if s.length ≤ 140737488351232 then some (.bys s) else none | _ => none)
  | .b2s x => dryF (fB2s L (x.fv e))
  | .i2s x => dryF (match x.fv e with | .int _ n => some (.str (Utf8.encode n).data.toList) | _ => none)
  | .idn x => dryF (match x.fv e with | .str s => some (.str s) | _ => none)
  | .mk esz eb ik z l c => fMk d g esz eb ik (z.map ofS) (l.fv e) (c.fv e)
  | .subS x lo hi => dryF (fSubS (x.fv e) (lo.map (X.fv e)) (hi.map (X.fv e)))
  | .subL esz x lo hi mx => dryF (fSubL L esz (x.fv e) (lo.map (X.fv e)) (hi.map (X.fv e)) (mx.map (X.fv e)))
  | .fadr off x => dryF (fFadr off (x.fv e))
  | .fld off agg x => dryF (fFld off agg (x.fv e))
  | .iadrL esz x i => dryF (fIadrL L esz (x.fv e) (i.fv e))
  | .iadrA n esz x i => dryF (fIadrA n esz (x.fv e) (i.fv e))
  | .idxS x i => dryF (fIdxS (x.fv e) (i.fv e))
  | .idxA n esz agg x i => dryF (fIdxA n esz agg (x.fv e) (i.fv e))
  | .ext x i => dryF (fExt i (x.fv e))
  | .clo f fs cs => dryF (some (.clo f (fs.map (X.fv e)) (cs.map (X.fv e))))
  | .ifc t x => dryF (some (.ifc t (x.fv e)))
  | .lenS x => dryF (fLenS (x.fv e))
  | .lenL x => dryF (fLenL (x.fv e))
  | .lenK n => dryF (some (.int .i64 n))
  | .mm isMax xs => dryF (match xs with | [] => none | x :: xs => fMmAll isMax (x.fv e) (xs.map (X.fv e)))
  | .app esz eb ik x y => fApp L d g esz eb ik (x.fv e) (y.fv e)
  | .copy esz x y => fCopy L esz (x.fv e) (y.fv e)
  | .call f xs => fCall call sg L d g f (xs.map (X.fv e))
  | .callv x xs => match x.fv e with | .clo f fs cs => fCall call sg L d g f (fs ++ xs.map (X.fv e) ++ cs) | _ => none
  | .rng x => match x.fv e with | .str s => some (.ptr d g 0, [(d, some (.iter g s 0))]) | _ => none
  | .nxt x => fNxt L (x.fv e)
  | .subA .. => none
  | .bad => none

/-! ### Regions, code, calls -/
structure FSt where
  e : FEnv
  L : FHeap
  n : Nat
/-- is the operation wanted? -/
def fwant (e : FEnv) : Option (Nat × Bool) → Option Bool
  | none => some true
  | some (t, b) => match e t with | .bool c => some (c == b) | .tup _ => some false | _ => none
def dstD (d : Option Nat) : Nat := d.getD 4095
def fregT (call : FCallF) (sg : Sg) : List O → FSt → Option FSt
  | [], s => some s
  | o :: os, s => (fwant s.e o.guard).bind fun w =>
    if w then (fvI call sg s.e s.L (dstD o.dst) s.n o.op).bind fun r => fregT call sg os ⟨fput s.e o.dst r.1, fapp s.L r.2, s.n + 1⟩
    else fregT call sg os ⟨fput s.e o.dst fundef, s.L, s.n⟩
/-- who wrote block d in this region last? -/
def wlook : List (Nat × Nat) → Nat → Option Nat
  | [], _ => none
  | (d, i) :: W, n => if n = d then some i else wlook W n
/-- the blocks that an operation may see that waits for the operations m -/
def vis (W : List (Nat × Nat)) (m : Nat) (L : FHeap) : FHeap := fun d => match wlook W d with | none => L d | some i => if m.testBit i then L d else none
/-- is a block changed that was there before the age n? -/
def oldB (n : Nat) : Option FB → Bool
  | none => true
  | some (.row g fr _ _ _ _) => !(g == n) && !fr
  | some (.iter g _ _) => !(g == n)
def olds (n : Nat) (u : FUpd) : Bool := u.any fun q => oldB n q.2
def fregD (call : FCallF) (sg : Sg) : Nat → List O → List (Nat × Nat) → FSt → Option FSt
  | _, [], _, s => some s
  | i, o :: os, W, s => (fwant s.e o.guard).bind fun w =>
    if w then (fvI call sg s.e (vis W o.pre s.L) (dstD o.dst) s.n o.op).bind fun r =>
      if o.iso || !olds s.n r.2 then fregD call sg (i + 1) os (r.2.map (fun q => (q.1, i)) ++ W) ⟨fput s.e o.dst r.1, fapp s.L r.2, s.n + 1⟩ else none
    else fregD call sg (i + 1) os W ⟨fput s.e o.dst fundef, s.L, s.n⟩
abbrev FIter := (FSt → Option (Ex × FSt)) → FSt → Option (Ex × FSt)
def fitN : Nat → FIter
  | 0, _, _ => none
  | k + 1, f, s => (f s).bind fun r => match r.1 with | .norm => fitN k f r.2 | _ => some r
def fden (call : FCallF) (sg : Sg) (it : FIter) : C → FSt → Option (Ex × FSt)
  | .skip, s => some (.norm, s)
  | .reg false ops, s => (fregT call sg ops s).map fun s => (.norm, s)
  | .reg true ops, s => (fregD call sg 0 ops [] s).map fun s => (.norm, s)
  | .seq a b, s => (fden call sg it a s).bind fun r => match r.1 with | .norm => fden call sg it b r.2 | _ => some r
  | .cond x a b, s => match x.fv s.e with
    | .bool t => if t then fden call sg it a s else fden call sg it b s
    | _ => none
  | .blk id a, s => (fden call sg it a s).map fun r => if r.1 = .exit id then (.norm, r.2) else r
  | .loop a, s => it (fden call sg it a) s
  | .exit id, s => some (.exit id, s)
  | .ret, s => some (.ret, s)
  | .bad, _ => none
def fresV (e : FEnv) (L : FHeap) : R → Option FV
  | .tmp t => some (e t)
  | .cell t g => fLoad L g (e t)
def fresAll (e : FEnv) (L : FHeap) : List R → Option (List FV)
  | [] => some []
  | r :: rs => (fresV e L r).bind fun v => (fresAll e L rs).map (v :: ·)
def fone : List FV → FV
  | [v] => v
  | l => .tup l
/-- the place of block d among those handed in -/
def posOf : List Nat → Nat → Option Nat
  | [], _ => none
  | a :: l, d => if a = d then some 0 else (posOf l d).map (· + 1)
/-- a result: own blocks are handed over, what was handed in is named by its place -/
def rt1 (ps : List Nat) (L : FHeap) : FV → Option (FV × FHeap)
  | .ref d 0 o n => (posOf ps d).bind fun k => match L d with | some (.row 0 false _ _ _ _) => some (.aref k o n, L) | _ => none
  | .ptr d 0 o => (posOf ps d).bind fun k => match L d with | some (.row 0 false _ _ _ _) => some (.aptr k o, L) | _ => none
  | .ref d (g + 1) o n => match L d with
    | some (.row g' false true ik esz c) => if g' = g + 1 ∧ o = 0 ∧ n * esz = c.length then some (.own ik esz n c, drop1 L d) else (fz L fuel (.ref d (g + 1) o n)).map fun q => (q.1, fapp L (freeze L q.2))
    | _ => (fz L fuel (.ref d (g + 1) o n)).map fun q => (q.1, fapp L (freeze L q.2))
  | .ptr d (g + 1) 0 => match L d with
    | some (.row g' false tr ik esz c) => if g' = g + 1 then (trees L (tr || c.all FV.leaf) c).bind fun q => if d ∈ q.2 then none else some (.optr ik esz q.1, drop1 (fapp L (freeze L q.2)) d) else none
    | _ => none
  | .emp => some (.emp, L)
  | v => (fz L fuel v).map fun q => (q.1, fapp L (freeze L q.2))
def rt1L (ps : List Nat) : FHeap → List FV → Option (List FV × FHeap)
  | L, [] => some ([], L)
  | L, v :: l => (rt1 ps L v).bind fun q => (rt1L ps q.2 l).map fun r => (q.1 :: r.1, r.2)
def rt2 (ps : List Nat) (L : FHeap) : FV → Option (FV × FHeap)
  | .agg l => (rt1L ps L l).map fun q => (.agg q.1, q.2)
  | v => rt1 ps L v
def rt2L (ps : List Nat) : FHeap → List FV → Option (List FV × FHeap)
  | L, [] => some ([], L)
  | L, v :: l => (rt2 ps L v).bind fun q => (rt2L ps q.2 l).map fun r => (q.1 :: r.1, r.2)
/-- what has become of the blocks handed in -/
def outs (L : FHeap) (ps : List Nat) : List Nat → Option (List (Option (List FV)))
  | [] => some []
  | d :: ds => match L d with
    | some (.row 0 false tr ik esz c) => (trees L (tr || c.all FV.leaf) c).bind fun q => if q.2.any (fun x => decide (x ∈ ps)) then none else (outs L ps ds).map (some q.1 :: ·)
    | some (.row 0 true _ _ _ _) => none
    | _ => (outs L ps ds).map (none :: ·)
/-- the arguments: what is handed over becomes blocks of age 0 -/
def innAll : Nat → List FV → Option (List FV × FUpd)
  | _, [] => some ([], [])
  | i, v :: l => (th2 [] i 0 0 v).bind fun q => (innAll (i + 1) l).map fun r => (q.1 :: r.1, q.2.1 ++ r.2)
def fEnd (ps : List Nat) (L : FHeap) (vs : List FV) : Option (FV × List (Option (List FV))) :=
  (rt2L ps L vs).bind fun q => (outs q.2 ps ps).map fun o => (fone q.1, o)
def fbody (call : FCallF) (sg : Sg) (it : FIter) (f : F) (args : List FV) : Option (FV × List (Option (List FV))) :=
  if args.length = f.np ∧ f.np < 4096 then
    (innAll 0 args).bind fun a =>
    (fden call sg it f.body ⟨fun t => a.1.getD t fundef, fapp (fun _ => none) a.2, 1⟩).bind fun r =>
      match r.1 with
      | .exit _ => none
      | _ => (fresAll r.2.e r.2.L f.res).bind fun vs => fEnd (a.2.map (·.1)) r.2.L vs
  else none
def fcallN (ir : Nat → Option F) (sg : Sg) : Nat → FCallF
  | 0, _, _ => none
  | k + 1, f, args => (ir f).bind fun fn => fbody (fcallN ir sg k) sg (fitN k) fn args
end Go.Proofs.YtalnnbokmpppjaaAb
