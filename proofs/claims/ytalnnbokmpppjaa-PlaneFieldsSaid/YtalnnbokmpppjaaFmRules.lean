/- Rules for calls, trees, results. -/
import Derived.Test.YtalnnbokmpppjaaFmEval
namespace Go.Proofs.YtalnnbokmpppjaaAb
open Go
set_option linter.unusedVariables false
set_option linter.unusedSimpArgs false
/-! ### Whole numbers in cells -/
def rdL (l : List Int) (o : Nat) : Int := l.getD o 0
theorem rdL_eq {l : List Int} {o : Nat} (h : o < l.length) : rdL l o = l[o] := by unfold rdL; simp [h]
def ints (k : IntKind) (l : List Int) : List FV := l.map (FV.int k)
theorem ints_len (k : IntKind) (l : List Int) : (ints k l).length = l.length := by simp [ints]
theorem ints_nil (k : IntKind) : ints k [] = [] := rfl
theorem ints_get {k : IntKind} {l : List Int} {o : Nat} (h : o < l.length) : (ints k l)[o]? = some (.int k (rdL l o)) := by
  unfold ints; rw [List.getElem?_map, List.getElem?_eq_getElem h, rdL_eq h]; rfl
theorem ints_take (k : IntKind) (l : List Int) (n : Nat) : (ints k l).take n = ints k (l.take n) := List.map_take.symm
theorem ints_drop (k : IntKind) (l : List Int) (n : Nat) : (ints k l).drop n = ints k (l.drop n) := List.map_drop.symm
theorem ints_append (k : IntKind) (l m : List Int) : ints k l ++ ints k m = ints k (l ++ m) := List.map_append.symm
theorem ints_over (k : IntKind) (l m : List Int) (o : Nat) : over (ints k l) o (ints k m) = ints k (over l o m) := by
  unfold over; rw [ints_take, ints_drop, ints_append, ints_append, ints_len]
theorem ints_set {k : IntKind} {l : List Int} {o : Nat} {v : Int} (h : o < l.length) : over (ints k l) o [.int k v] = ints k (l.set o v) := by
  have : [FV.int k v] = ints k [v] := rfl
  rw [this, ints_over]
  congr 1
  unfold over
  rw [List.set_eq_take_append_cons_drop, if_pos h]
  simp
theorem ints_one (k : IntKind) (v : Int) : [FV.int k v] = ints k [v] := rfl
theorem kind_ints (k : IntKind) (l : List Int) : kindOK (some k) (ints k l) = true := by
  simp only [kindOK, ints, List.all_map, List.all_eq_true]; intro x _; simp
theorem kind_none (c : List FV) : kindOK none c = true := rfl
theorem kind_nil (k : IntKind) : kindOK (some k) [] = true := rfl
theorem kind_cons (k k' : IntKind) (n : Int) (c : List FV) : kindOK (some k) (.int k' n :: c) = (decide (k' = k) && kindOK (some k) c) := rfl
theorem take_len {α : Type} {l : List α} {n : Nat} (h : l.length ≤ n) : l.take n = l := List.take_of_length_le h
theorem leaf_ints (k : IntKind) (l : List Int) : (ints k l).all FV.leaf = true := by
  simp only [ints, List.all_map, List.all_eq_true]; intro x _; rfl
theorem clean_ints (k : IntKind) (l : List Int) : (ints k l).all clean1 = true := by
  simp only [ints, List.all_map, List.all_eq_true]; intro x _; rfl
/-! ### Handing over -/
section
variable (c : FCallF) (sg : Sg) (L : FHeap) (d g : Nat)
theorem call_eq (f : Nat) (args : List FV) : fCall c sg L d g f args = (tkAll (sg f) 0 L args).bind fun t => (fzAL t.2.2 t.1).bind fun z => (c f z.1).bind fun r =>
  (back t.2.1 r.2).bind fun b => (th t.2.1 d g r.1).map fun h => (h.1, h.2 ++ b ++ frzOf t.2.2 z.2 (clean r.1 && cleanO r.2)) := rfl
theorem tkAll_none : ∀ (l : List FV) (i : Nat) (L : FHeap), tkAll [] i L l = some (l, [], L)
  | [], _, _ => rfl
  | v :: l, i, L => by simp [tkAll, tkAll_none l]
theorem tkAll_nil (m : List Nat) (i : Nat) : tkAll m i L [] = some ([], [], L) := rfl
theorem tkAll_cons (m : List Nat) (i : Nat) (v : FV) (l : List FV) : tkAll m i L (v :: l) = (if i ∈ m then tkA L v else some (v, [], L)).bind fun q => (tkAll m (i + 1) q.2.2 l).map fun r => (q.1 :: r.1, q.2.1 ++ r.2.1, r.2.2) := rfl
def tkR (o n : Nat) : Option FB → Option (FV × List (Nat × FB) × FHeap)
  | some (.row g' fr tr ik esz c) => if g' = g ∧ fr = false ∧ o = 0 ∧ n * esz = c.length ∧ tr then some (.own ik esz n c, [(d, .row g fr tr ik esz c)], drop1 L d) else none
  | _ => none
def tkP (o : Nat) : Option FB → Option (FV × List (Nat × FB) × FHeap)
  | some (.row g' fr tr ik esz c) => if g' = g ∧ fr = false ∧ o = 0 then some (.optr ik esz c, [(d, .row g fr tr ik esz c)], drop1 L d) else none
  | _ => none
theorem tk_ref (o n : Nat) : tk L (.ref d g o n) = tkR L d g o n (L d) := by
  unfold tk tkR; simp only; cases L d with
  | none => rfl
  | some fb => cases fb <;> rfl
theorem tk_ptr (o : Nat) : tk L (.ptr d g o) = tkP L d g o (L d) := by
  unfold tk tkP; simp only; cases L d with
  | none => rfl
  | some fb => cases fb <;> rfl
theorem tkR_some (o n g' : Nat) (fr tr : Bool) (ik : Option IntKind) (esz : Nat) (c : List FV) : tkR L d g o n (some (.row g' fr tr ik esz c)) = if g' = g ∧ fr = false ∧ o = 0 ∧ n * esz = c.length ∧ tr then some (.own ik esz n c, [(d, .row g fr tr ik esz c)], drop1 L d) else none := rfl
theorem tkP_some (o g' : Nat) (fr tr : Bool) (ik : Option IntKind) (esz : Nat) (c : List FV) : tkP L d g o (some (.row g' fr tr ik esz c)) = if g' = g ∧ fr = false ∧ o = 0 then some (.optr ik esz c, [(d, .row g fr tr ik esz c)], drop1 L d) else none := rfl
theorem tk_int (k : IntKind) (n : Int) : tk L (.int k n) = some (.int k n, [], L) := rfl
theorem tk_bool (b : Bool) : tk L (.bool b) = some (.bool b, [], L) := rfl
theorem tk_str (s : List UInt8) : tk L (.str s) = some (.str s, [], L) := rfl
theorem tk_emp : tk L .emp = some (.emp, [], L) := rfl
theorem tk_lst (n : Nat) (c : List FV) : tk L (.lst n c) = some (.lst n c, [], L) := rfl
theorem tk_tp (c : List FV) (n : Nat) : tk L (.tp c n) = some (.tp c n, [], L) := rfl
theorem tkL_nil : tkL L [] = some ([], [], L) := rfl
theorem tkL_cons (v : FV) (l : List FV) : tkL L (v :: l) = (tk L v).bind fun q => (tkL q.2.2 l).map fun r => (q.1 :: r.1, q.2.1 ++ r.2.1, r.2.2) := rfl
theorem tkA_agg (l : List FV) : tkA L (.agg l) = (tkL L l).map fun q => (.agg q.1, q.2) := rfl
theorem tkA_ref (o n : Nat) : tkA L (.ref d g o n) = tkR L d g o n (L d) := tk_ref L d g o n
theorem tkA_ptr (o : Nat) : tkA L (.ptr d g o) = tkP L d g o (L d) := tk_ptr L d g o
theorem tkA_emp : tkA L .emp = some (.emp, [], L) := rfl
theorem tkA_lst (n : Nat) (c : List FV) : tkA L (.lst n c) = some (.lst n c, [], L) := rfl
theorem tkA_tp (c : List FV) (n : Nat) : tkA L (.tp c n) = some (.tp c n, [], L) := rfl
/-! trees -/
def fzR (k d o n : Nat) (x : Option (Bool × Bool × Option IntKind × Nat × List FV)) : Option (FV × List Nat) :=
  x.bind fun r => if o + n * r.2.2.2.1 ≤ r.2.2.2.2.length then
          if r.2.1 then some (.lst n ((r.2.2.2.2.drop o).take (n * r.2.2.2.1)), [d])
          else (fzL L k ((r.2.2.2.2.drop o).take (n * r.2.2.2.1))).map fun q => (.lst n q.1, d :: q.2)
        else none
def fzP (k d o : Nat) (x : Option (Bool × Bool × Option IntKind × Nat × List FV)) : Option (FV × List Nat) :=
  x.bind fun r => if r.2.1 then some (.tp r.2.2.2.2 o, [d]) else (fzL L k r.2.2.2.2).map fun q => (.tp q.1 o, d :: q.2)
theorem fzR_some (k o n : Nat) (fr tr : Bool) (ik : Option IntKind) (esz : Nat) (c : List FV) : fzR L k d o n (some (fr, tr, ik, esz, c)) = if o + n * esz ≤ c.length then (if tr then some (.lst n ((c.drop o).take (n * esz)), [d]) else (fzL L k ((c.drop o).take (n * esz))).map fun q => (.lst n q.1, d :: q.2)) else none := rfl
theorem fzP_some (k o : Nat) (fr tr : Bool) (ik : Option IntKind) (esz : Nat) (c : List FV) : fzP L k d o (some (fr, tr, ik, esz, c)) = if tr then some (.tp c o, [d]) else (fzL L k c).map fun q => (.tp q.1 o, d :: q.2) := rfl
variable (k : Nat)
theorem fz_int (a : IntKind) (n : Int) : fz L (k + 1) (.int a n) = some (.int a n, []) := rfl
theorem fz_bool (b : Bool) : fz L (k + 1) (.bool b) = some (.bool b, []) := rfl
theorem fz_str (s : List UInt8) : fz L (k + 1) (.str s) = some (.str s, []) := rfl
theorem fz_nilp : fz L (k + 1) .nilp = some (.nilp, []) := rfl
theorem fz_nilf : fz L (k + 1) .nilf = some (.nilf, []) := rfl
theorem fz_nili : fz L (k + 1) .nili = some (.nili, []) := rfl
theorem fz_lst (n : Nat) (c : List FV) : fz L (k + 1) (.lst n c) = some (.lst n c, []) := rfl
theorem fz_tp (c : List FV) (o : Nat) : fz L (k + 1) (.tp c o) = some (.tp c o, []) := rfl
theorem fz_emp : fz L (k + 1) .emp = some (.lst 0 [], []) := rfl
theorem fz_ref (o n : Nat) : fz L (k + 1) (.ref d g o n) = fzR L k d o n (rowB g (L d)) := by
  rw [← rowOf_eq]; rfl
theorem fz_ptr (o : Nat) : fz L (k + 1) (.ptr d g o) = fzP L k d o (rowB g (L d)) := by
  rw [← rowOf_eq]; rfl
theorem fz_agg (l : List FV) : fz L (k + 1) (.agg l) = (fzL L k l).map fun q => (.agg q.1, q.2) := rfl
theorem fz_tup (l : List FV) : fz L (k + 1) (.tup l) = (fzL L k l).map fun q => (.tup q.1, q.2) := rfl
theorem fz_clo (f : Nat) (a b : List FV) : fz L (k + 1) (.clo f a b) = (fzL L k a).bind fun x => (fzL L k b).map fun y => (.clo f x.1 y.1, x.2 ++ y.2) := rfl
theorem fz_ifc (t : Nat) (v : FV) : fz L (k + 1) (.ifc t v) = (fz L k v).map fun q => (.ifc t q.1, q.2) := rfl
theorem fzL_nil : fzL L (k + 1) [] = some ([], []) := rfl
theorem fzL_cons (v : FV) (l : List FV) : fzL L (k + 1) (v :: l) = (fz L k v).bind fun q => (fzL L k l).map fun r => (q.1 :: r.1, q.2 ++ r.2) := rfl
theorem fuel_eq : fuel = 999 + 1 := rfl
theorem fzAL_nil : fzAL L [] = some ([], []) := rfl
theorem fzAL_cons (v : FV) (l : List FV) : fzAL L (v :: l) = (fzA L v).bind fun q => (fzAL L l).map fun r => (q.1 :: r.1, q.2 ++ r.2) := rfl
theorem fzOL_nil : fzOL L [] = some ([], []) := rfl
theorem fzOL_cons (v : FV) (l : List FV) : fzOL L (v :: l) = (fzO L v).bind fun q => (fzOL L l).map fun r => (q.1 :: r.1, q.2 ++ r.2) := rfl
theorem fzA_agg (l : List FV) : fzA L (.agg l) = (fzOL L l).map fun q => (.agg q.1, q.2) := rfl
theorem fzA_int (a : IntKind) (n : Int) : fzA L (.int a n) = some (.int a n, []) := rfl
theorem fzA_bool (b : Bool) : fzA L (.bool b) = some (.bool b, []) := rfl
theorem fzA_str (s : List UInt8) : fzA L (.str s) = some (.str s, []) := rfl
theorem fzA_nilp : fzA L .nilp = some (.nilp, []) := rfl
theorem fzA_nilf : fzA L .nilf = some (.nilf, []) := rfl
theorem fzA_nili : fzA L .nili = some (.nili, []) := rfl
theorem fzA_lst (n : Nat) (c : List FV) : fzA L (.lst n c) = some (.lst n c, []) := rfl
theorem fzA_tp (c : List FV) (o : Nat) : fzA L (.tp c o) = some (.tp c o, []) := rfl
theorem fzA_emp : fzA L .emp = some (.lst 0 [], []) := rfl
theorem fzA_ref (o n : Nat) : fzA L (.ref d g o n) = fzR L 999 d o n (rowB g (L d)) := fz_ref L d g 999 o n
theorem fzA_ptr (o : Nat) : fzA L (.ptr d g o) = fzP L 999 d o (rowB g (L d)) := fz_ptr L d g 999 o
theorem fzA_own (ik : Option IntKind) (esz n : Nat) (c : List FV) : fzA L (.own ik esz n c) = some (.own ik esz n c, []) := rfl
theorem fzA_optr (ik : Option IntKind) (esz : Nat) (c : List FV) : fzA L (.optr ik esz c) = (trees L (c.all FV.leaf) c).map fun q => (.optr ik esz q.1, q.2) := rfl
theorem fzA_clo (f : Nat) (a b : List FV) : fzA L (.clo f a b) = (fzL L 999 a).bind fun x => (fzL L 999 b).map fun y => (.clo f x.1 y.1, x.2 ++ y.2) := rfl
theorem fzA_ifc (t : Nat) (v : FV) : fzA L (.ifc t v) = (fz L 999 v).map fun q => (.ifc t q.1, q.2) := rfl
theorem fzO_int (a : IntKind) (n : Int) : fzO L (.int a n) = some (.int a n, []) := rfl
theorem fzO_bool (b : Bool) : fzO L (.bool b) = some (.bool b, []) := rfl
theorem fzO_str (s : List UInt8) : fzO L (.str s) = some (.str s, []) := rfl
theorem fzO_lst (n : Nat) (c : List FV) : fzO L (.lst n c) = some (.lst n c, []) := rfl
theorem fzO_tp (c : List FV) (o : Nat) : fzO L (.tp c o) = some (.tp c o, []) := rfl
theorem fzO_emp : fzO L .emp = some (.lst 0 [], []) := rfl
theorem fzO_ref (o n : Nat) : fzO L (.ref d g o n) = fzR L 999 d o n (rowB g (L d)) := fz_ref L d g 999 o n
theorem fzO_ptr (o : Nat) : fzO L (.ptr d g o) = fzP L 999 d o (rowB g (L d)) := fz_ptr L d g 999 o
theorem fzO_own (ik : Option IntKind) (esz n : Nat) (c : List FV) : fzO L (.own ik esz n c) = some (.own ik esz n c, []) := rfl
theorem trees_t (c : List FV) : trees L true c = some (c, []) := rfl
theorem trees_f (c : List FV) : trees L false c = fzL L 1000 c := rfl
theorem frz_nil (b : Bool) : frzOf L [] b = [] := rfl
theorem frz_t (v : Nat) (vs : List Nat) : frzOf L (v :: vs) true = [] := rfl
theorem frz_f (v : Nat) (vs : List Nat) : frzOf L (v :: vs) false = freeze L (v :: vs) := rfl
def frB (d : Nat) (r : FUpd) : Option FB → FUpd
  | some (.row g _ tr ik esz c) => (d, some (.row g true tr ik esz c)) :: r
  | _ => r
theorem freeze_nil : freeze L [] = [] := rfl
theorem freeze_cons (ds : List Nat) : freeze L (d :: ds) = frB d (freeze L ds) (L d) := by
  rw [freeze]; unfold frB; cases L d with
  | none => rfl
  | some fb => cases fb <;> rfl
theorem frB_row (r : FUpd) (fr tr : Bool) (ik : Option IntKind) (esz : Nat) (c : List FV) : frB d r (some (.row g fr tr ik esz c)) = (d, some (.row g true tr ik esz c)) :: r := rfl
/-! back -/
theorem back_nil : back [] [] = some [] := rfl
theorem back_row (fr tr : Bool) (ik : Option IntKind) (esz : Nat) (c c' : List FV) (l : List (Nat × FB)) (os : List (Option (List FV))) : back ((d, .row g fr tr ik esz c) :: l) (some c' :: os) = if c'.length = c.length then (back l os).map ((d, some (.row g fr true ik esz c')) :: ·) else none := rfl
theorem back_none (fr tr : Bool) (ik : Option IntKind) (esz : Nat) (c : List FV) (l : List (Nat × FB)) (os : List (Option (List FV))) : back ((d, .row g fr tr ik esz c) :: l) (none :: os) = (back l os).map ((d, none) :: ·) := rfl
variable (ts : List (Nat × FB))
theorem th_tup (l : List FV) : th ts d g (.tup l) = (th2L ts d g 0 l).map fun q => (.tup q.1, q.2.1) := rfl
theorem th_agg (l : List FV) : th ts d g (.agg l) = (th1L ts d g 0 l).map fun q => (.agg q.1, q.2.1) := by
  show ((th1L ts d g 0 l).map _).map _ = _
  cases th1L ts d g 0 l <;> rfl
theorem th_own (ik : Option IntKind) (esz n : Nat) (c : List FV) : th ts d g (.own ik esz n c) = some (.ref d g 0 n, [(d, some (.row g false true ik esz c))]) := rfl
theorem th_optr (ik : Option IntKind) (esz : Nat) (c : List FV) : th ts d g (.optr ik esz c) = some (.ptr d g 0, [(d, some (.row g false true ik esz c))]) := rfl
theorem th_int (a : IntKind) (n : Int) : th ts d g (.int a n) = some (.int a n, []) := rfl
theorem th_bool (b : Bool) : th ts d g (.bool b) = some (.bool b, []) := rfl
theorem th_str (s : List UInt8) : th ts d g (.str s) = some (.str s, []) := rfl
theorem th_emp : th ts d g .emp = some (.emp, []) := rfl
theorem th_nilp : th ts d g .nilp = some (.nilp, []) := rfl
theorem th_nilf : th ts d g .nilf = some (.nilf, []) := rfl
theorem th_nili : th ts d g .nili = some (.nili, []) := rfl
theorem th_lst (n : Nat) (c : List FV) : th ts d g (.lst n c) = some (.lst n c, []) := rfl
theorem th_tp (c : List FV) (o : Nat) : th ts d g (.tp c o) = some (.tp c o, []) := rfl
theorem th_clo (f : Nat) (a b : List FV) : th ts d g (.clo f a b) = some (.clo f a b, []) := rfl
theorem th_aref (q : Nat × FB) (j o n : Nat) : th ts d g (.aref j o n) = (ts[j]?).map fun q => (.ref q.1 q.2.g o n, []) := by
  show ((ts[j]?).map _).map _ = _
  cases ts[j]? <;> rfl
theorem th1L_nil : th1L ts d g k [] = some ([], [], k) := rfl
theorem th1L_cons (v : FV) (l : List FV) : th1L ts d g k (v :: l) = (th1 ts d g k v).bind fun q => (th1L ts d g q.2.2 l).map fun r => (q.1 :: r.1, q.2.1 ++ r.2.1, r.2.2) := rfl
theorem th2L_nil : th2L ts d g k [] = some ([], [], k) := rfl
theorem th2L_cons (v : FV) (l : List FV) : th2L ts d g k (v :: l) = (th2 ts d g k v).bind fun q => (th2L ts d g q.2.2 l).map fun r => (q.1 :: r.1, q.2.1 ++ r.2.1, r.2.2) := rfl
theorem th2_agg (l : List FV) : th2 ts d g k (.agg l) = (th1L ts d g k l).map fun q => (.agg q.1, q.2) := rfl
theorem th2_own (ik : Option IntKind) (esz n : Nat) (c : List FV) : th2 ts d g k (.own ik esz n c) = some (.ref (d + 4096 * k) g 0 n, [(d + 4096 * k, some (.row g false true ik esz c))], k + 1) := rfl
theorem th2_optr (ik : Option IntKind) (esz : Nat) (c : List FV) : th2 ts d g k (.optr ik esz c) = some (.ptr (d + 4096 * k) g 0, [(d + 4096 * k, some (.row g false true ik esz c))], k + 1) := rfl
theorem th2_int (a : IntKind) (n : Int) : th2 ts d g k (.int a n) = some (.int a n, [], k) := rfl
theorem th2_bool (b : Bool) : th2 ts d g k (.bool b) = some (.bool b, [], k) := rfl
theorem th2_str (s : List UInt8) : th2 ts d g k (.str s) = some (.str s, [], k) := rfl
theorem th2_emp : th2 ts d g k .emp = some (.emp, [], k) := rfl
theorem th2_nilp : th2 ts d g k .nilp = some (.nilp, [], k) := rfl
theorem th2_nilf : th2 ts d g k .nilf = some (.nilf, [], k) := rfl
theorem th2_nili : th2 ts d g k .nili = some (.nili, [], k) := rfl
theorem th2_lst (n : Nat) (c : List FV) : th2 ts d g k (.lst n c) = some (.lst n c, [], k) := rfl
theorem th2_tp (c : List FV) (o : Nat) : th2 ts d g k (.tp c o) = some (.tp c o, [], k) := rfl
theorem th2_clo (f : Nat) (a b : List FV) : th2 ts d g k (.clo f a b) = some (.clo f a b, [], k) := rfl
theorem th2_aref (j o n : Nat) : th2 ts d g k (.aref j o n) = (ts[j]?).map fun q => (.ref q.1 q.2.g o n, [], k) := rfl
theorem th1_own (ik : Option IntKind) (esz n : Nat) (c : List FV) : th1 ts d g k (.own ik esz n c) = some (.ref (d + 4096 * k) g 0 n, [(d + 4096 * k, some (.row g false true ik esz c))], k + 1) := rfl
theorem th1_int (a : IntKind) (n : Int) : th1 ts d g k (.int a n) = some (.int a n, [], k) := rfl
theorem th1_bool (b : Bool) : th1 ts d g k (.bool b) = some (.bool b, [], k) := rfl
theorem th1_str (s : List UInt8) : th1 ts d g k (.str s) = some (.str s, [], k) := rfl
theorem th1_emp : th1 ts d g k .emp = some (.emp, [], k) := rfl
theorem th1_nilp : th1 ts d g k .nilp = some (.nilp, [], k) := rfl
theorem th1_lst (n : Nat) (c : List FV) : th1 ts d g k (.lst n c) = some (.lst n c, [], k) := rfl
theorem th1_tp (c : List FV) (o : Nat) : th1 ts d g k (.tp c o) = some (.tp c o, [], k) := rfl
theorem th1_aref (j o n : Nat) : th1 ts d g k (.aref j o n) = (ts[j]?).map fun q => (.ref q.1 q.2.g o n, [], k) := rfl
theorem FB_g (fr tr : Bool) (ik : Option IntKind) (esz : Nat) (c : List FV) : (FB.row g fr tr ik esz c).g = g := rfl
theorem inn_nil (i : Nat) : innAll i [] = some ([], []) := rfl
theorem inn_cons (i : Nat) (v : FV) (l : List FV) : innAll i (v :: l) = (th2 [] i 0 0 v).bind fun q => (innAll (i + 1) l).map fun r => (q.1 :: r.1, q.2.1 ++ r.2) := rfl
/-! results -/
variable (ps : List Nat)
theorem end_eq (vs : List FV) : fEnd ps L vs = (rt2L ps L vs).bind fun q => (outs q.2 ps ps).map fun o => (fone q.1, o) := rfl
theorem rt2L_nil : rt2L ps L [] = some ([], L) := rfl
theorem rt2L_cons (v : FV) (l : List FV) : rt2L ps L (v :: l) = (rt2 ps L v).bind fun q => (rt2L ps q.2 l).map fun r => (q.1 :: r.1, r.2) := rfl
theorem rt1L_nil : rt1L ps L [] = some ([], L) := rfl
theorem rt1L_cons (v : FV) (l : List FV) : rt1L ps L (v :: l) = (rt1 ps L v).bind fun q => (rt1L ps q.2 l).map fun r => (q.1 :: r.1, r.2) := rfl
theorem rt2_agg (l : List FV) : rt2 ps L (.agg l) = (rt1L ps L l).map fun q => (.agg q.1, q.2) := rfl
def rtA (o n k : Nat) : Option FB → Option (FV × FHeap)
  | some (.row 0 false _ _ _ _) => some (.aref k o n, L)
  | _ => none
def rtP (o k : Nat) : Option FB → Option (FV × FHeap)
  | some (.row 0 false _ _ _ _) => some (.aptr k o, L)
  | _ => none
def rtF (r : Option (FV × List Nat)) : Option (FV × FHeap) := r.map fun q => (q.1, fapp L (freeze L q.2))
def rtB (o n : Nat) : Option FB → Option (FV × FHeap)
  | some (.row g' fr tr ik esz c) => if fr = false ∧ tr = true ∧ g' = g ∧ o = 0 ∧ n * esz = c.length then some (.own ik esz n c, drop1 L d) else rtF L (fz L 1000 (.ref d g o n))
  | _ => rtF L (fz L 1000 (.ref d g o n))
theorem rt1_ref0 (o n : Nat) : rt1 ps L (.ref d 0 o n) = (posOf ps d).bind fun k => rtA L o n k (L d) := by
  show ((posOf ps d).bind fun k => match L d with | some (.row 0 false _ _ _ _) => some (FV.aref k o n, L) | _ => none) = _
  cases posOf ps d with
  | none => rfl
  | some k =>
    simp only [Option.bind_some]
    unfold rtA
    cases L d with
    | none => rfl
    | some fb =>
      cases fb with
      | iter => rfl
      | row g fr tr ik esz c => cases g <;> cases fr <;> rfl
theorem rt1_ref {g : Nat} (hg : 0 < g) (o n : Nat) : rt1 ps L (.ref d g o n) = rtB L d g o n (L d) := by
  cases g with
  | zero => cases hg
  | succ g =>
    have e : rt1 ps L (.ref d (g + 1) o n) = match L d with
      | some (.row g' false true ik esz c) => if g' = g + 1 ∧ o = 0 ∧ n * esz = c.length then some (.own ik esz n c, drop1 L d) else (fz L fuel (.ref d (g + 1) o n)).map fun q => (q.1, fapp L (freeze L q.2))
      | _ => (fz L fuel (.ref d (g + 1) o n)).map fun q => (q.1, fapp L (freeze L q.2)) := rfl
    rw [e]
    unfold rtB rtF
    cases L d with
    | none => rfl
    | some fb =>
      cases fb with
      | iter => rfl
      | row g' fr tr ik esz c =>
        cases fr <;> cases tr <;> simp [fuel]
theorem rtA_row (o n k : Nat) (tr : Bool) (ik : Option IntKind) (esz : Nat) (c : List FV) : rtA L o n k (some (.row 0 false tr ik esz c)) = some (.aref k o n, L) := rfl
theorem rtB_row (o n g' : Nat) (fr tr : Bool) (ik : Option IntKind) (esz : Nat) (c : List FV) : rtB L d g o n (some (.row g' fr tr ik esz c)) = if fr = false ∧ tr = true ∧ g' = g ∧ o = 0 ∧ n * esz = c.length then some (.own ik esz n c, drop1 L d) else rtF L (fz L 1000 (.ref d g o n)) := rfl
theorem rtF_some (q : FV × List Nat) : rtF L (some q) = some (q.1, fapp L (freeze L q.2)) := rfl
theorem rt1_int (a : IntKind) (n : Int) : rt1 ps L (.int a n) = some (.int a n, L) := rfl
theorem rt1_bool (b : Bool) : rt1 ps L (.bool b) = some (.bool b, L) := rfl
theorem rt1_str (s : List UInt8) : rt1 ps L (.str s) = some (.str s, L) := rfl
theorem rt1_emp : rt1 ps L .emp = some (.emp, L) := rfl
theorem rt1_nilp : rt1 ps L .nilp = some (.nilp, L) := rfl
theorem rt1_nilf : rt1 ps L .nilf = some (.nilf, L) := rfl
theorem rt1_nili : rt1 ps L .nili = some (.nili, L) := rfl
theorem rt1_lst (n : Nat) (c : List FV) : rt1 ps L (.lst n c) = some (.lst n c, L) := rfl
theorem rt1_tp (c : List FV) (o : Nat) : rt1 ps L (.tp c o) = some (.tp c o, L) := rfl
theorem rt1_clo (f : Nat) (a b : List FV) : rt1 ps L (.clo f a b) = rtF L (fz L 1000 (.clo f a b)) := rfl
theorem rt1_ifc (t : Nat) (v : FV) : rt1 ps L (.ifc t v) = rtF L (fz L 1000 (.ifc t v)) := rfl
theorem rt2_int (a : IntKind) (n : Int) : rt2 ps L (.int a n) = some (.int a n, L) := rfl
theorem rt2_bool (b : Bool) : rt2 ps L (.bool b) = some (.bool b, L) := rfl
theorem rt2_str (s : List UInt8) : rt2 ps L (.str s) = some (.str s, L) := rfl
theorem rt2_emp : rt2 ps L .emp = some (.emp, L) := rfl
theorem rt2_nilp : rt2 ps L .nilp = some (.nilp, L) := rfl
theorem rt2_lst (n : Nat) (c : List FV) : rt2 ps L (.lst n c) = some (.lst n c, L) := rfl
theorem rt2_tp (c : List FV) (o : Nat) : rt2 ps L (.tp c o) = some (.tp c o, L) := rfl
theorem rt2_ref0 (o n : Nat) : rt2 ps L (.ref d 0 o n) = (posOf ps d).bind fun k => rtA L o n k (L d) := rt1_ref0 L d ps o n
theorem rt2_ref {g : Nat} (hg : 0 < g) (o n : Nat) : rt2 ps L (.ref d g o n) = rtB L d g o n (L d) := rt1_ref L d ps hg o n
theorem rt2_clo (f : Nat) (a b : List FV) : rt2 ps L (.clo f a b) = rtF L (fz L 1000 (.clo f a b)) := rfl
theorem posOf_nil (x : Nat) : posOf [] x = none := rfl
theorem posOf_cons (a x : Nat) (l : List Nat) : posOf (a :: l) x = if a = x then some 0 else (posOf l x).map (· + 1) := rfl
theorem outs_nil : outs L ps [] = some [] := rfl
def outB (r : Option (List (Option (List FV)))) : Option FB → Option (List (Option (List FV)))
  | some (.row 0 false tr ik esz c) => (trees L (tr || c.all FV.leaf) c).bind fun q => if q.2.any (fun x => decide (x ∈ ps)) then none else r.map (some q.1 :: ·)
  | some (.row 0 true _ _ _ _) => none
  | _ => r.map (none :: ·)
theorem outs_cons (ds : List Nat) : outs L ps (d :: ds) = outB L ps (outs L ps ds) (L d) := by
  rw [outs]; unfold outB; cases L d with
  | none => rfl
  | some fb =>
    cases fb with
    | iter => rfl
    | row g fr tr ik esz c => cases g <;> cases fr <;> rfl
theorem outB_row (r : Option (List (Option (List FV)))) (tr : Bool) (ik : Option IntKind) (esz : Nat) (c : List FV) : outB L ps r (some (.row 0 false tr ik esz c)) = (trees L (tr || c.all FV.leaf) c).bind fun q => if q.2.any (fun x => decide (x ∈ ps)) then none else r.map (some q.1 :: ·) := rfl
theorem outB_none (r : Option (List (Option (List FV)))) : outB L ps r none = r.map (none :: ·) := rfl
theorem outB_new (r : Option (List (Option (List FV)))) (g : Nat) (fr tr : Bool) (ik : Option IntKind) (esz : Nat) (c : List FV) : outB L ps r (some (.row (g + 1) fr tr ik esz c)) = r.map (none :: ·) := by cases fr <;> rfl
theorem fone_one (v : FV) : fone [v] = v := rfl
theorem fone_nil : fone [] = .tup [] := rfl
theorem fone_two (v w : FV) (l : List FV) : fone (v :: w :: l) = .tup (v :: w :: l) := rfl
variable (e : FEnv)
theorem res_nil : fresAll e L [] = some [] := rfl
theorem res_cons (r : R) (rs : List R) : fresAll e L (r :: rs) = (fresV e L r).bind fun v => (fresAll e L rs).map (v :: ·) := rfl
theorem res_tmp (t : Nat) : fresV e L (.tmp t) = some (e t) := rfl
theorem res_cell (t : Nat) (a : Option Nat) : fresV e L (.cell t a) = fLoad L a (e t) := rfl
/-! building -/
theorem fill_nil (c : List FV) : fFill c [] = some c := rfl
theorem fill_cons (c : List FV) (off sz : Nat) (v : FV) (r : List (Nat × Nat × FV)) : fFill c ((off, sz, v) :: r) = v.cells.bind fun w => if w.length = sz ∧ off + sz ≤ c.length then fFill (over c off w) r else none := rfl
theorem mk_ints {eb : Nat} {k k1 k2 : IntKind} {a l c : Int} (h : 0 ≤ l ∧ l ≤ c ∧ eb * c ≤ 140737488351232) :
    fMk d g 1 eb (some k) [.int k a] (.int k1 l) (.int k2 c) = some (.ref d g 0 l.toNat, [(d, some (.row g false true (some k) 1 (ints k (List.replicate c.toNat a))))]) := by
  have hc : ((c.toNat : Nat) : Int) = c := Int.toNat_of_nonneg (by omega)
  have h3 : eb * c.toNat ≤ 140737488351232 := by
    have : ((eb * c.toNat : Nat) : Int) ≤ 140737488351232 := by rw [Int.natCast_mul, hc]; exact h.2.2
    omega
  have ht : tileF [FV.int k a] (c.toNat * 1) = ints k (List.replicate c.toNat a) := by
    unfold tileF ints
    apply List.ext_getElem
    · simp
    · intro i h1 h2; simp [Nat.mod_one]
  unfold fMk fNew
  rw [nat_pos h.1, nat_pos (by omega), Option.bind_some, Option.bind_some, if_pos ⟨by omega, h3, rfl, by omega, fun _ => rfl⟩, ht, if_pos (kind_ints _ _)]
theorem bldS_eq (len esz : Nat) (ik : Option IntKind) (z : List FV) (ps : List (Nat × Nat × FV)) : fBldS d g len esz ik z ps = (fFill z ps).bind fun c => if len * esz = c.length ∧ 0 < esz ∧ (ik.isSome → esz = 1) then (if len = 0 then some (.emp, []) else fNew d g (c.all FV.leaf) ik esz len c) else none := rfl
theorem new_eq (tr : Bool) (ik : Option IntKind) (esz l : Nat) (c : List FV) : fNew d g tr ik esz l c = if kindOK ik c then some (.ref d g 0 l, [(d, some (.row g false tr ik esz c))]) else none := rfl
theorem len_emp : lenF .emp = some 0 := rfl
theorem len_lst (n : Nat) (c : List FV) : lenF (.lst n c) = some n := rfl
theorem len_ref (o n : Nat) : lenF (.ref d g o n) = some n := rfl
theorem len_str (s : List UInt8) : lenF (.str s) = some s.length := rfl
theorem len_bys (s : List UInt8) : lenF (.bys s) = some s.length := rfl
theorem src_emp (esz n : Nat) : srcF L esz n .emp = if n = 0 then some ([], []) else none := rfl
theorem src_lst (esz n m : Nat) (c : List FV) : srcF L esz n (.lst m c) = if n ≤ m ∧ m * esz = c.length then some (c.take (n * esz), []) else none := rfl
def srcB (esz n o m : Nat) (x : Option (Bool × Bool × Option IntKind × Nat × List FV)) : Option (List FV × List Nat) :=
  x.bind fun r => if n ≤ m ∧ r.2.2.2.1 = esz ∧ o + m * esz ≤ r.2.2.2.2.length then trees L r.2.1 ((r.2.2.2.2.drop o).take (n * esz)) else none
theorem src_ref (esz n o m : Nat) : srcF L esz n (.ref d g o m) = srcB L esz n o m (rowB g (L d)) := by
  rw [← rowOf_eq]; rfl
theorem srcB_some (esz n o m : Nat) (fr tr : Bool) (ik : Option IntKind) (esz' : Nat) (c : List FV) : srcB L esz n o m (some (fr, tr, ik, esz', c)) = if n ≤ m ∧ esz' = esz ∧ o + m * esz ≤ c.length then trees L tr ((c.drop o).take (n * esz)) else none := rfl
theorem src_str (esz n : Nat) (s : List UInt8) : srcF L esz n (.str s) = if esz = 1 ∧ n ≤ s.length then some ((s.take n).map fun b => .int .u8 b.toNat, []) else none := rfl
theorem app_emp (esz eb : Nat) (ik : Option IntKind) (y : FV) : fApp L d g esz eb ik .emp y = (lenF y).bind fun n => (srcF L esz n y).bind fun ys =>
    if n = 0 then some (.emp, []) else if 0 < esz ∧ (ik.isSome → esz = 1) ∧ kindOK ik ys.1 then (if n * eb ≤ 140737488351232 then some (.ref d g 0 n, (d, some (.row g false true ik esz ys.1)) :: freeze L ys.2) else none) else none := rfl
theorem app_ref (esz eb : Nat) (ik : Option IntKind) (d0 g0 o len : Nat) (y : FV) : fApp L d g esz eb ik (.ref d0 g0 o len) y = (lenF y).bind fun n => (srcF L esz n y).bind fun ys =>
    if n = 0 then some (.ref d0 g0 o len, []) else if 0 < esz ∧ (ik.isSome → esz = 1) ∧ kindOK ik ys.1 then ((rowB g0 (L d0)).bind fun r => if r.1 = false ∧ o = 0 ∧ r.2.2.1 = ik ∧ r.2.2.2.1 = esz ∧ len * esz = r.2.2.2.2.length ∧ (len + n) * eb ≤ 140737488351232 then
      (trees L r.2.1 r.2.2.2.2).bind fun c => if kindOK ik c.1 ∧ d0 ∉ ys.2 ∧ d0 ∉ c.2 then some (.ref d g 0 (len + n), (d, some (.row g false true ik esz (c.1 ++ ys.1))) :: (d0, none) :: freeze L (ys.2 ++ c.2)) else none
    else none) else none := by rw [← rowOf_eq]; rfl
theorem copy_emp (esz : Nat) (y : FV) : fCopy L esz .emp y = (lenF y).bind fun n => some (.int .i64 0, []) := rfl
theorem copy_ref (esz o len : Nat) (y : FV) : fCopy L esz (.ref d g o len) y = (lenF y).bind fun n => if min n len = 0 then some (.int .i64 0, []) else
        (srcF L esz (min n len) y).bind fun c => (rowB g (L d)).bind fun r => if r.1 = false ∧ r.2.2.2.1 = esz ∧ o + c.1.length ≤ r.2.2.2.2.length ∧ kindOK r.2.2.1 c.1 ∧ d ∉ c.2 then
          some (.int .i64 (min n len : Nat), (d, some (.row g false r.2.1 r.2.2.1 esz (over r.2.2.2.2 o c.1))) :: freeze L c.2) else none := by rw [← rowOf_eq]; rfl
theorem b2s_emp : fB2s L .emp = some (.str []) := rfl
theorem b2s_bys (s : List UInt8) : fB2s L (.bys s) = some (.str s) := rfl
def strOf (l : List Int) : List UInt8 := l.map fun n => UInt8.ofNat n.toNat
theorem fBytes_ints : ∀ (l : List Int), fBytes (ints .u8 l) = some (strOf l)
  | [] => rfl
  | a :: l => by
    show (fBytes (ints .u8 l)).map _ = _
    rw [fBytes_ints l]; rfl
theorem b2s_lst (n : Nat) (c : List FV) : fB2s L (.lst n c) = if n = c.length then (fBytes c).map .str else none := rfl
theorem b2s_ref (o n : Nat) : fB2s L (.ref d g o n) = (rowB g (L d)).bind fun r => if r.2.2.2.1 = 1 ∧ o + n ≤ r.2.2.2.2.length then (fBytes ((r.2.2.2.2.drop o).take n)).map .str else none := by rw [← rowOf_eq]; rfl
end
theorem over_succ {α : Type} (a : α) (l xs : List α) (o : Nat) : over (a :: l) (o + 1) xs = a :: over l o xs := by
  unfold over; simp [Nat.add_right_comm]
theorem over_zero {α : Type} (a x : α) (l xs : List α) : over (a :: l) 0 (x :: xs) = x :: over l 0 xs := by
  unfold over; simp
theorem over_none {α : Type} (l : List α) (o : Nat) : over l o [] = l := by
  unfold over; simp
/-! ### Numbers -/
/-- a guard that holds -/
theorem gd {α : Type} {c : Prop} [Decidable c] {x : Option α} (h : c) : (if c then x else none) = x := if_pos h

theorem w64 {x : Int} (h : -9223372036854775808 ≤ x ∧ x < 9223372036854775808) : IntKind.i64.wrap x = x := by
  show (if (true && decide (x % 2 ^ 64 ≥ 2 ^ (64 - 1))) = true then x % 2 ^ 64 - 2 ^ 64 else x % 2 ^ 64) = x
  rw [Bool.true_and]
  split
  · rename_i h; have := of_decide_eq_true h; omega
  · rename_i h; have := of_decide_eq_false (Bool.eq_false_iff.2 h); omega
theorem w8 (x : Int) : IntKind.u8.wrap x = x % 256 := by
  simp [IntKind.wrap, IntKind.signed, IntKind.bits]
theorem toNat_lit (n : Nat) : (OfNat.ofNat n : Int).toNat = n := rfl
end Go.Proofs.YtalnnbokmpppjaaAb
