-- Written by a program of this session, after the form of the kit's print; each text is checked by Lean alone.
import Derived.Test.YtnihjbcdlgfklaaPMotionPredictsx0
import Derived.Test.YtnihjbcdlgfklaaPMotionPredictsx8
namespace Go.Proofs.Ytnihjbcdlgfklaa.PMotionPredicts
open Go.RowKit Go.Proofs.YtnihjbcdlgfklaaW.PrintWords Go.Proofs.YtnihjbcdlgfklaaW.PrintLast Go.Proofs.YtnihjbcdlgfklaaW.PrintMore
attribute [local go_sem] max2_int min2_int max_two min_two max_three min_three max_four min_four   -- for this text's walks alone
set_option linter.unusedVariables false
set_option linter.unusedSimpArgs false

/-! ### cutroomref08_Predict: function 16 -/
def cutroomref08_Predict.j0 : Nat → Int → Int → Int → Int → Bool → Int → Int → List Int → List Int → List Int → Int → Int → Option (Int × Int × List Int × List Int × List Int × Int)
  | 0, _, _, _, _, _, _, _, _, _, _, _, _ => none
  | k + 1, x1, x2, x3, x4, x62, x245000, x245001, x245002, x245003, x245004, x246000, x246001 => if x62 = true then (some (0, 0, ([] : List Int), ([] : List Int), ([] : List Int), 1)) else ((cutroomref08_May.f x246000 x246001).bind fun t248 => (if t248 = true then ((cutroomref08_component.f k x245002 x245000 x1 x2 x3 x4 x246000 x246001).bind fun t249 => ((cutroomref08_component.f k x245003 (wrap64 (Int.tdiv x245000 2)) (wrap64 (Int.tdiv x1 2)) (wrap64 (Int.tdiv x2 2)) (wrap64 (Int.tdiv x3 2)) (wrap64 (Int.tdiv x4 2)) (wrap64 (Int.tdiv x246000 2)) (wrap64 (Int.tdiv x246001 2))).bind fun t252 => ((cutroomref08_component.f k x245004 (wrap64 (Int.tdiv x245000 2)) (wrap64 (Int.tdiv x1 2)) (wrap64 (Int.tdiv x2 2)) (wrap64 (Int.tdiv x3 2)) (wrap64 (Int.tdiv x4 2)) (wrap64 (Int.tdiv x246000 2)) (wrap64 (Int.tdiv x246001 2))).bind fun t255 => (some (x3, x4, t249, t252, t255, 0))))) else (some (0, 0, ([] : List Int), ([] : List Int), ([] : List Int), 2))))
def cutroomref08_Predict.f (k : Nat) (a0_0 : Int) (a0_1 : Int) (l0_2 : List Int) (l0_3 : List Int) (l0_4 : List Int) (a1 : Int) (a2 : Int) (a3 : Int) (a4 : Int) (a5_0 : Int) (a5_1 : Int) : Option (Int × Int × List Int × List Int × List Int × Int) := (cutroomref07_Formed.f a0_0 a0_1 l0_2 l0_3 l0_4).bind fun t247 => (if t247 = true then (if a3 = 16 then (if a4 = 8 then (if a1 < 0 then (cutroomref08_Predict.j0 k a1 a2 a3 a4 true a0_0 a0_1 l0_2 l0_3 l0_4 a5_0 a5_1) else (if a2 < 0 then (cutroomref08_Predict.j0 k a1 a2 a3 a4 true a0_0 a0_1 l0_2 l0_3 l0_4 a5_0 a5_1) else (if (Int.tmod a1 2) = 0 then (if (Int.tmod a2 2) = 0 then (if a1 > (wrap64 (a0_0 - a3)) then (cutroomref08_Predict.j0 k a1 a2 a3 a4 true a0_0 a0_1 l0_2 l0_3 l0_4 a5_0 a5_1) else (cutroomref08_Predict.j0 k a1 a2 a3 a4 (decide (a2 > (wrap64 (a0_1 - a4)))) a0_0 a0_1 l0_2 l0_3 l0_4 a5_0 a5_1)) else (cutroomref08_Predict.j0 k a1 a2 a3 a4 true a0_0 a0_1 l0_2 l0_3 l0_4 a5_0 a5_1)) else (cutroomref08_Predict.j0 k a1 a2 a3 a4 true a0_0 a0_1 l0_2 l0_3 l0_4 a5_0 a5_1)))) else (if a4 = 16 then (if a1 < 0 then (cutroomref08_Predict.j0 k a1 a2 a3 a4 true a0_0 a0_1 l0_2 l0_3 l0_4 a5_0 a5_1) else (if a2 < 0 then (cutroomref08_Predict.j0 k a1 a2 a3 a4 true a0_0 a0_1 l0_2 l0_3 l0_4 a5_0 a5_1) else (if (Int.tmod a1 2) = 0 then (if (Int.tmod a2 2) = 0 then (if a1 > (wrap64 (a0_0 - a3)) then (cutroomref08_Predict.j0 k a1 a2 a3 a4 true a0_0 a0_1 l0_2 l0_3 l0_4 a5_0 a5_1) else (cutroomref08_Predict.j0 k a1 a2 a3 a4 (decide (a2 > (wrap64 (a0_1 - a4)))) a0_0 a0_1 l0_2 l0_3 l0_4 a5_0 a5_1)) else (cutroomref08_Predict.j0 k a1 a2 a3 a4 true a0_0 a0_1 l0_2 l0_3 l0_4 a5_0 a5_1)) else (cutroomref08_Predict.j0 k a1 a2 a3 a4 true a0_0 a0_1 l0_2 l0_3 l0_4 a5_0 a5_1)))) else (cutroomref08_Predict.j0 k a1 a2 a3 a4 true a0_0 a0_1 l0_2 l0_3 l0_4 a5_0 a5_1))) else (cutroomref08_Predict.j0 k a1 a2 a3 a4 true a0_0 a0_1 l0_2 l0_3 l0_4 a5_0 a5_1)) else (cutroomref08_Predict.j0 k a1 a2 a3 a4 true a0_0 a0_1 l0_2 l0_3 l0_4 a5_0 a5_1))
theorem cutroomref08_Predict.mono_l : ∀ k, (∀ y0 y1 y2 y3 y4 y5 y6 y7 y8 y9 y10 y11, LeO (cutroomref08_Predict.j0 k y0 y1 y2 y3 y4 y5 y6 y7 y8 y9 y10 y11) (cutroomref08_Predict.j0 (k + 1) y0 y1 y2 y3 y4 y5 y6 y7 y8 y9 y10 y11))
  | 0 => fun _ _ _ _ _ _ _ _ _ _ _ _ r h => by simp [cutroomref08_Predict.j0] at h
  | k + 1 => by
    have ih0 := cutroomref08_Predict.mono_l k
    · intro y0 y1 y2 y3 y4 y5 y6 y7 y8 y9 y10 y11
      unfold cutroomref08_Predict.j0
      repeat' first
      | (with_reducible exact ih0 _ _ _ _ _ _ _ _ _ _ _ _)
      | (with_reducible exact cutroomref08_component.mono _ _ _ _ _ _ _ _ _)
      | (with_reducible exact LeO.refl _)
      | (with_reducible exact LeO.none _)
      | (with_reducible refine LeO.ite ?_ ?_)
      | (with_reducible refine LeO.bind ?_ (fun _ => ?_))
      | exact ih0 _ _ _ _ _ _ _ _ _ _ _ _
      | exact cutroomref08_component.mono _ _ _ _ _ _ _ _ _
      | exact LeO.none _
      | refine LeO.ite ?_ ?_
      | refine LeO.bind ?_ (fun _ => ?_)
theorem cutroomref08_Predict.mono : ∀ a0 a1 a2 a3 a4 a5 a6 a7 a8 a9 a10 k, LeO (cutroomref08_Predict.f k a0 a1 a2 a3 a4 a5 a6 a7 a8 a9 a10) (cutroomref08_Predict.f (k + 1) a0 a1 a2 a3 a4 a5 a6 a7 a8 a9 a10) := by
  intro a0 a1 a2 a3 a4 a5 a6 a7 a8 a9 a10 k
  have ih0 := cutroomref08_Predict.mono_l k
  unfold cutroomref08_Predict.f
  repeat' first
      | (with_reducible exact ih0 _ _ _ _ _ _ _ _ _ _ _ _)
      | (with_reducible exact cutroomref08_component.mono _ _ _ _ _ _ _ _ _)
      | (with_reducible exact LeO.refl _)
      | (with_reducible exact LeO.none _)
      | (with_reducible refine LeO.ite ?_ ?_)
      | (with_reducible refine LeO.bind ?_ (fun _ => ?_))
      | exact ih0 _ _ _ _ _ _ _ _ _ _ _ _
      | exact cutroomref08_component.mono _ _ _ _ _ _ _ _ _
      | exact LeO.none _
      | refine LeO.ite ?_ ?_
      | refine LeO.bind ?_ (fun _ => ?_)
def cutroomref08_Predict.T5 : Bool × List (List Nat × List Nat) := (true, [([], []), ([], []), ([], []), ([2], [2]), ([], []), ([4], [4]), ([], []), ([], []), ([], []), ([], []), ([], []), ([10], [10]), ([], []), ([12], [12]), ([3, 5, 6, 7, 8, 9, 11, 13], [3, 5, 6, 7, 8, 9, 11, 13]), ([], []), ([15], [15]), ([], []), ([17], [17]), ([18], [18]), ([], []), ([20], [20]), ([], []), ([22], [22]), ([], []), ([24], [24]), ([], []), ([26], [26]), ([], []), ([28], [28]), ([29], [29]), ([], []), ([31], [31]), ([32], [32]), ([16, 19, 21, 23, 25, 27, 30, 33, 14], [16, 19, 21, 23, 25, 27, 30, 33]), ([], []), ([35], [35]), ([], []), ([37], [37]), ([38], [38]), ([], []), ([40], [40]), ([], []), ([42], [42]), ([], []), ([44], [44]), ([], []), ([46], [46]), ([], []), ([48], [48]), ([49], [49]), ([], []), ([51], [51]), ([52], [52]), ([36, 39, 41, 43, 45, 47, 50, 53, 34], [36, 39, 41, 43, 45, 47, 50, 53]), ([0, 1, 14, 34, 54], [0, 1, 14, 34, 54]), ([55, 54, 0, 1, 2, 3, 4, 5, 6, 7, 8, 9, 10, 11, 12, 13, 14, 15, 16, 17, 18, 19, 20, 21, 22, 23, 24, 25, 26, 27, 28, 29, 30, 31, 32, 33, 34, 35, 36, 37, 38, 39, 40, 41, 42, 43, 44, 45, 46, 47, 48, 49, 50, 51, 52, 53, 54, 55], [55]), ([56, 0, 1, 2, 3, 4, 5, 6, 7, 8, 9, 10, 11, 12, 13, 14, 15, 16, 17, 18, 19, 20, 21, 22, 23, 24, 25, 26, 27, 28, 29, 30, 31, 32, 33, 34, 35, 36, 37, 38, 39, 40, 41, 42, 43, 44, 45, 46, 47, 48, 49, 50, 51, 52, 53, 54, 55, 56], [])])
def cutroomref08_Predict.B5 : List Nat := [0, 0, 0, 4, 0, 16, 0, 0, 0, 0, 0, 1024, 0, 4096, 16380, 0, 32768, 0, 131072, 393216, 0, 1048576, 0, 4194304, 0, 16777216, 0, 67108864, 0, 268435456, 805306368, 0, 2147483648, 6442450944, 17179869180, 0, 34359738368, 0, 137438953472, 412316860416, 0, 1099511627776, 0, 4398046511104, 0, 17592186044416, 0, 70368744177664, 0, 281474976710656, 844424930131968, 0, 2251799813685248, 6755399441055744, 18014398509481980, 36028797018963967, 72057594037927935, 144115188075855871]
theorem cutroomref08_Predict.tab5 : rtab .any (opsOf Try.f16 5) = cutroomref08_Predict.T5 := by kernel_rfl
theorem cutroomref08_Predict.bits5 : waitsOk cutroomref08_Predict.T5.2 cutroomref08_Predict.B5 = true := by kernel_rfl
set_option maxHeartbeats 8000000 in
set_option maxRecDepth 100000 in
theorem cutroomref08_Predict.calls (k : Nat) (a0_0 : Int) (a0_1 : Int) (A0_2 : Option Addr) (c0_2 : Nat) (l0_2 : List Int) (A0_3 : Option Addr) (c0_3 : Nat) (l0_3 : List Int) (A0_4 : Option Addr) (c0_4 : Nat) (l0_4 : List Int) (a1 : Int) (a2 : Int) (a3 : Int) (a4 : Int) (a5_0 : Int) (a5_1 : Int) (r1 : Int) (r2 : Int) (r3 : List Int) (r4 : List Int) (r5 : List Int) (r6 : Int) (w : World) (hr0_2 : Kd.C (Kd.int .u8) w A0_2 l0_2.length l0_2) (hc0_2 : l0_2.length ≤ c0_2) (hr0_3 : Kd.C (Kd.int .u8) w A0_3 l0_3.length l0_3) (hc0_3 : l0_3.length ≤ c0_3) (hr0_4 : Kd.C (Kd.int .u8) w A0_4 l0_4.length l0_4) (hc0_4 : l0_4.length ≤ c0_4) (h : cutroomref08_Predict.f k a0_0 a0_1 l0_2 l0_3 l0_4 a1 a2 a3 a4 a5_0 a5_1 = some (r1, r2, r3, r4, r5, r6)) :
    Calls Try.prog 16 #[.agg #[.int .i64 a0_0, .int .i64 a0_1, .slice A0_2 l0_2.length c0_2, .slice A0_3 l0_3.length c0_3, .slice A0_4 l0_4.length c0_4], .int .i64 a1, .int .i64 a2, .int .i64 a3, .int .i64 a4, .agg #[.int .i64 a5_0, .int .i64 a5_1]] w fun e w' => ∃ v2_ v3_ v4_ : Value, e = .returned (.tuple #[.agg #[.int .i64 r1, .int .i64 r2, v2_, v3_, v4_], .int .i64 r6]) ∧ Kd.R (Kd.int .u8) 5 w' w.heap.size (fun k_ => some k_ ≠ (v3_ : Value).ownBlock ∧ some k_ ≠ (v4_ : Value).ownBlock) v2_ r3 ∧ Kd.R (Kd.int .u8) 5 w' w.heap.size (fun k_ => some k_ ≠ (v2_ : Value).ownBlock ∧ some k_ ≠ (v4_ : Value).ownBlock) v3_ r4 ∧ Kd.R (Kd.int .u8) 5 w' w.heap.size (fun k_ => some k_ ≠ (v2_ : Value).ownBlock ∧ some k_ ≠ (v3_ : Value).ownBlock) v4_ r5 ∧ Below w.heap.size w w' := by
  have hu24 := Try.underlying24
  have hu32 := Try.underlying32
  have HR0_2 := Aside0.mk hr0_2
  have HC0_2 := Aside0.mk hc0_2
  clear hr0_2 hc0_2
  have HR0_3 := Aside0.mk hr0_3
  have HC0_3 := Aside0.mk hc0_3
  clear hr0_3 hc0_3
  have HR0_4 := Aside0.mk hr0_4
  have HC0_4 := Aside0.mk hc0_4
  clear hr0_4 hc0_4
  have HB := Aside0.mk (Below.refl w.heap.size w)
  have H : ((cutroomref07_Formed.f a0_0 a0_1 l0_2 l0_3 l0_4).bind fun t247 => (if t247 = true then (if a3 = 16 then (if a4 = 8 then (if a1 < 0 then (cutroomref08_Predict.j0 k a1 a2 a3 a4 true a0_0 a0_1 l0_2 l0_3 l0_4 a5_0 a5_1) else (if a2 < 0 then (cutroomref08_Predict.j0 k a1 a2 a3 a4 true a0_0 a0_1 l0_2 l0_3 l0_4 a5_0 a5_1) else (if (Int.tmod a1 2) = 0 then (if (Int.tmod a2 2) = 0 then (if a1 > (wrap64 (a0_0 - a3)) then (cutroomref08_Predict.j0 k a1 a2 a3 a4 true a0_0 a0_1 l0_2 l0_3 l0_4 a5_0 a5_1) else (cutroomref08_Predict.j0 k a1 a2 a3 a4 (decide (a2 > (wrap64 (a0_1 - a4)))) a0_0 a0_1 l0_2 l0_3 l0_4 a5_0 a5_1)) else (cutroomref08_Predict.j0 k a1 a2 a3 a4 true a0_0 a0_1 l0_2 l0_3 l0_4 a5_0 a5_1)) else (cutroomref08_Predict.j0 k a1 a2 a3 a4 true a0_0 a0_1 l0_2 l0_3 l0_4 a5_0 a5_1)))) else (if a4 = 16 then (if a1 < 0 then (cutroomref08_Predict.j0 k a1 a2 a3 a4 true a0_0 a0_1 l0_2 l0_3 l0_4 a5_0 a5_1) else (if a2 < 0 then (cutroomref08_Predict.j0 k a1 a2 a3 a4 true a0_0 a0_1 l0_2 l0_3 l0_4 a5_0 a5_1) else (if (Int.tmod a1 2) = 0 then (if (Int.tmod a2 2) = 0 then (if a1 > (wrap64 (a0_0 - a3)) then (cutroomref08_Predict.j0 k a1 a2 a3 a4 true a0_0 a0_1 l0_2 l0_3 l0_4 a5_0 a5_1) else (cutroomref08_Predict.j0 k a1 a2 a3 a4 (decide (a2 > (wrap64 (a0_1 - a4)))) a0_0 a0_1 l0_2 l0_3 l0_4 a5_0 a5_1)) else (cutroomref08_Predict.j0 k a1 a2 a3 a4 true a0_0 a0_1 l0_2 l0_3 l0_4 a5_0 a5_1)) else (cutroomref08_Predict.j0 k a1 a2 a3 a4 true a0_0 a0_1 l0_2 l0_3 l0_4 a5_0 a5_1)))) else (cutroomref08_Predict.j0 k a1 a2 a3 a4 true a0_0 a0_1 l0_2 l0_3 l0_4 a5_0 a5_1))) else (cutroomref08_Predict.j0 k a1 a2 a3 a4 true a0_0 a0_1 l0_2 l0_3 l0_4 a5_0 a5_1)) else (cutroomref08_Predict.j0 k a1 a2 a3 a4 true a0_0 a0_1 l0_2 l0_3 l0_4 a5_0 a5_1))) = some (r1, r2, r3, r4, r5, r6) := h
  clear h
  have HC7 := Aside0.mk H
  clear H
  go_enter Try.func16, Try.ntmps16
  go_upto_region 1 with (first | ((with_reducible refine gate_dst (N := 6) rfl ?_); refine box_event ?hg (N := 6) ?hd (cs := #[.int .i64 a0_0, .int .i64 a0_1, .slice A0_2 l0_2.length c0_2, .slice A0_3 l0_3.length c0_3, .slice A0_4 l0_4.length c0_4]) (t := 24) ?hr ?_; (case hd => rfl); (case hg => rfl); (case hr => first | (go_simp; done) | (go_simp; rfl)); intro gb244 hg w8 hbox hb; have n0_ := Aside0.mk (below_step (by repeat (first | (with_reducible first | exact HB.out | apply below_alloc | apply pw_below_drewN | apply below_drew1) | exact HB.out)) hb); have n1_ := Aside0.mk (hbox); have n2_ := Aside0.mk ((by rw [hg]; exact (below_size (by repeat (first | (with_reducible first | exact HB.out | apply below_alloc | apply pw_below_drewN | apply below_drew1) | exact HB.out))) : w.heap.size ≤ gb244)); have n3_ := Aside0.mk ((by rw [hg]; exact (below_size (by repeat (first | (with_reducible first | exact HB.out | apply below_alloc | apply pw_below_drewN | apply below_drew1) | exact HB.out))) : w.heap.size ≤ gb244)); clear HB; have HB := n0_; have BK244 := n1_; have GW244 := n2_; have GE244 := n3_; clear n0_ n1_ n2_ n3_; clear hb hbox hg) | ((with_reducible refine gate_dst (N := 11) rfl ?_); refine box_event ?hg (N := 11) ?hd (cs := #[.int .i64 a5_0, .int .i64 a5_1]) (t := 32) ?hr ?_; (case hd => rfl); (case hg => rfl); (case hr => first | (go_simp; done) | (go_simp; rfl)); intro gb245 hg w9 hbox hb; have n0_ := Aside0.mk (blk_below (g := gb244) (o := .cells #[.int .i64 a0_0, .int .i64 a0_1, .slice A0_2 l0_2.length c0_2, .slice A0_3 l0_3.length c0_3, .slice A0_4 l0_4.length c0_4] 24 (0, 0)) (by (with_reducible repeat (first | refine blk_drewN ?_ _ | refine blk_drew ?_ | refine blk_alloc ?_ _)); exact BK244.out) hb); have n1_ := Aside0.mk (below_step (by repeat (first | (with_reducible first | exact HB.out | apply below_alloc | apply pw_below_drewN | apply below_drew1 | refine below_set ?_ GE244.out) | exact HB.out)) hb); have n2_ := Aside0.mk (hbox); have n3_ := Aside0.mk ((by rw [hg]; exact (below_size (by repeat (first | (with_reducible first | exact HB.out | apply below_alloc | apply pw_below_drewN | apply below_drew1 | refine below_set ?_ GE244.out) | exact HB.out))) : w.heap.size ≤ gb245)); have n4_ := Aside0.mk ((by rw [hg]; exact (below_size (by repeat (first | (with_reducible first | exact HB.out | apply below_alloc | apply pw_below_drewN | apply below_drew1 | refine below_set ?_ GE244.out) | exact HB.out))) : w.heap.size ≤ gb245)); have n5_ := Aside0.mk ((by rw [hg]; exact Nat.ne_of_lt (blk_lt (g := gb244) (o := .cells #[.int .i64 a0_0, .int .i64 a0_1, .slice A0_2 l0_2.length c0_2, .slice A0_3 l0_3.length c0_3, .slice A0_4 l0_4.length c0_4] 24 (0, 0)) (by (with_reducible repeat (first | refine blk_drewN ?_ _ | refine blk_drew ?_ | refine blk_alloc ?_ _)); exact BK244.out)) : gb244 ≠ gb245)); have n6_ := Aside0.mk ((by rw [hg]; exact Nat.ne_of_gt (blk_lt (g := gb244) (o := .cells #[.int .i64 a0_0, .int .i64 a0_1, .slice A0_2 l0_2.length c0_2, .slice A0_3 l0_3.length c0_3, .slice A0_4 l0_4.length c0_4] 24 (0, 0)) (by (with_reducible repeat (first | refine blk_drewN ?_ _ | refine blk_drew ?_ | refine blk_alloc ?_ _)); exact BK244.out)) : gb245 ≠ gb244)); clear BK244; clear HB; have BK244 := n0_; have HB := n1_; have BK245 := n2_; have GW245 := n3_; have GE245 := n4_; have NB244_245 := n5_; have NB245_244 := n6_; clear n0_ n1_ n2_ n3_ n4_ n5_ n6_; clear hb hbox hg) | ((with_reducible refine gate_dst (N := 12) rfl ?_); refine box_event ?hg (N := 12) ?hd (cs := #[.int .i64 0, .int .i64 0, .slice none 0 0, .slice none 0 0, .slice none 0 0]) (t := 24) ?hr ?_; (case hd => rfl); (case hg => rfl); (case hr => first | (go_simp; done) | (go_simp; rfl)); intro gb246 hg w10 hbox hb; have n0_ := Aside0.mk (blk_below (g := gb244) (o := .cells #[.int .i64 a0_0, .int .i64 a0_1, .slice A0_2 l0_2.length c0_2, .slice A0_3 l0_3.length c0_3, .slice A0_4 l0_4.length c0_4] 24 (0, 0)) (by (with_reducible repeat (first | refine blk_drewN ?_ _ | refine blk_drew ?_ | refine blk_alloc ?_ _)); exact BK244.out) hb); have n1_ := Aside0.mk (blk_below (g := gb245) (o := .cells #[.int .i64 a5_0, .int .i64 a5_1] 32 (0, 0)) (by (with_reducible repeat (first | refine blk_drewN ?_ _ | refine blk_drew ?_ | refine blk_alloc ?_ _)); exact BK245.out) hb); have n2_ := Aside0.mk (below_step (by repeat (first | (with_reducible first | exact HB.out | apply below_alloc | apply pw_below_drewN | apply below_drew1 | refine below_set ?_ GE244.out | refine below_set ?_ GE245.out) | exact HB.out)) hb); have n3_ := Aside0.mk (hbox); have n4_ := Aside0.mk ((by rw [hg]; exact (below_size (by repeat (first | (with_reducible first | exact HB.out | apply below_alloc | apply pw_below_drewN | apply below_drew1 | refine below_set ?_ GE244.out | refine below_set ?_ GE245.out) | exact HB.out))) : w.heap.size ≤ gb246)); have n5_ := Aside0.mk ((by rw [hg]; exact (below_size (by repeat (first | (with_reducible first | exact HB.out | apply below_alloc | apply pw_below_drewN | apply below_drew1 | refine below_set ?_ GE244.out | refine below_set ?_ GE245.out) | exact HB.out))) : w.heap.size ≤ gb246)); have n6_ := Aside0.mk ((by rw [hg]; exact Nat.ne_of_lt (blk_lt (g := gb244) (o := .cells #[.int .i64 a0_0, .int .i64 a0_1, .slice A0_2 l0_2.length c0_2, .slice A0_3 l0_3.length c0_3, .slice A0_4 l0_4.length c0_4] 24 (0, 0)) (by (with_reducible repeat (first | refine blk_drewN ?_ _ | refine blk_drew ?_ | refine blk_alloc ?_ _)); exact BK244.out)) : gb244 ≠ gb246)); have n7_ := Aside0.mk ((by rw [hg]; exact Nat.ne_of_gt (blk_lt (g := gb244) (o := .cells #[.int .i64 a0_0, .int .i64 a0_1, .slice A0_2 l0_2.length c0_2, .slice A0_3 l0_3.length c0_3, .slice A0_4 l0_4.length c0_4] 24 (0, 0)) (by (with_reducible repeat (first | refine blk_drewN ?_ _ | refine blk_drew ?_ | refine blk_alloc ?_ _)); exact BK244.out)) : gb246 ≠ gb244)); have n8_ := Aside0.mk ((by rw [hg]; exact Nat.ne_of_lt (blk_lt (g := gb245) (o := .cells #[.int .i64 a5_0, .int .i64 a5_1] 32 (0, 0)) (by (with_reducible repeat (first | refine blk_drewN ?_ _ | refine blk_drew ?_ | refine blk_alloc ?_ _)); exact BK245.out)) : gb245 ≠ gb246)); have n9_ := Aside0.mk ((by rw [hg]; exact Nat.ne_of_gt (blk_lt (g := gb245) (o := .cells #[.int .i64 a5_0, .int .i64 a5_1] 32 (0, 0)) (by (with_reducible repeat (first | refine blk_drewN ?_ _ | refine blk_drew ?_ | refine blk_alloc ?_ _)); exact BK245.out)) : gb246 ≠ gb245)); clear BK244; clear BK245; clear HB; have BK244 := n0_; have BK245 := n1_; have HB := n2_; have BK246 := n3_; have GW246 := n4_; have GE246 := n5_; have NB244_246 := n6_; have NB246_244 := n7_; have NB245_246 := n8_; have NB246_245 := n9_; clear n0_ n1_ n2_ n3_ n4_ n5_ n6_ n7_ n8_ n9_; clear hb hbox hg))
  (try simp only [Act.put, List.setIfInBounds_toArray, List.set_cons_zero, List.set_cons_succ])
  go_cut [62] (fun v62 wc => ∃ (kq : Nat) (x62_6 : Bool), v62 = .bool x62_6 ∧ Aside0 (cutroomref08_Predict.j0 kq a1 a2 a3 a4 x62_6 a0_0 a0_1 l0_2 l0_3 l0_4 a5_0 a5_1 = some (r1, r2, r3, r4, r5, r6)) ∧ Aside0 (kq ≤ k) ∧ Aside0 (wc.heap[gb244]? = some (.cells #[.int .i64 a0_0, .int .i64 a0_1, (.slice A0_2 l0_2.length c0_2), (.slice A0_3 l0_3.length c0_3), (.slice A0_4 l0_4.length c0_4)] 24 (0, 0))) ∧ Aside0 (wc.heap[gb245]? = some (.cells #[.int .i64 a5_0, .int .i64 a5_1] 32 (0, 0))) ∧ Aside0 (wc.heap[gb246]? = some (.cells #[.int .i64 0, .int .i64 0, (.slice none 0 0), (.slice none 0 0), (.slice none 0 0)] 24 (0, 0))) ∧ Aside0 (Below w.heap.size w wc))
  case first =>
    have H := HC7.out
    clear HC7
    replace H := Option.bind_eq_some_iff.mp H
    obtain ⟨t247, A110, H⟩ := H
    replace H : (if t247 = true then (if a3 = 16 then (if a4 = 8 then (if a1 < 0 then (cutroomref08_Predict.j0 k a1 a2 a3 a4 true a0_0 a0_1 l0_2 l0_3 l0_4 a5_0 a5_1) else (if a2 < 0 then (cutroomref08_Predict.j0 k a1 a2 a3 a4 true a0_0 a0_1 l0_2 l0_3 l0_4 a5_0 a5_1) else (if (Int.tmod a1 2) = 0 then (if (Int.tmod a2 2) = 0 then (if a1 > (wrap64 (a0_0 - a3)) then (cutroomref08_Predict.j0 k a1 a2 a3 a4 true a0_0 a0_1 l0_2 l0_3 l0_4 a5_0 a5_1) else (cutroomref08_Predict.j0 k a1 a2 a3 a4 (decide (a2 > (wrap64 (a0_1 - a4)))) a0_0 a0_1 l0_2 l0_3 l0_4 a5_0 a5_1)) else (cutroomref08_Predict.j0 k a1 a2 a3 a4 true a0_0 a0_1 l0_2 l0_3 l0_4 a5_0 a5_1)) else (cutroomref08_Predict.j0 k a1 a2 a3 a4 true a0_0 a0_1 l0_2 l0_3 l0_4 a5_0 a5_1)))) else (if a4 = 16 then (if a1 < 0 then (cutroomref08_Predict.j0 k a1 a2 a3 a4 true a0_0 a0_1 l0_2 l0_3 l0_4 a5_0 a5_1) else (if a2 < 0 then (cutroomref08_Predict.j0 k a1 a2 a3 a4 true a0_0 a0_1 l0_2 l0_3 l0_4 a5_0 a5_1) else (if (Int.tmod a1 2) = 0 then (if (Int.tmod a2 2) = 0 then (if a1 > (wrap64 (a0_0 - a3)) then (cutroomref08_Predict.j0 k a1 a2 a3 a4 true a0_0 a0_1 l0_2 l0_3 l0_4 a5_0 a5_1) else (cutroomref08_Predict.j0 k a1 a2 a3 a4 (decide (a2 > (wrap64 (a0_1 - a4)))) a0_0 a0_1 l0_2 l0_3 l0_4 a5_0 a5_1)) else (cutroomref08_Predict.j0 k a1 a2 a3 a4 true a0_0 a0_1 l0_2 l0_3 l0_4 a5_0 a5_1)) else (cutroomref08_Predict.j0 k a1 a2 a3 a4 true a0_0 a0_1 l0_2 l0_3 l0_4 a5_0 a5_1)))) else (cutroomref08_Predict.j0 k a1 a2 a3 a4 true a0_0 a0_1 l0_2 l0_3 l0_4 a5_0 a5_1))) else (cutroomref08_Predict.j0 k a1 a2 a3 a4 true a0_0 a0_1 l0_2 l0_3 l0_4 a5_0 a5_1)) else (cutroomref08_Predict.j0 k a1 a2 a3 a4 true a0_0 a0_1 l0_2 l0_3 l0_4 a5_0 a5_1)) = some (r1, r2, r3, r4, r5, r6) := H
    have A11 := Aside0.mk A110
    clear A110
    by_cases c12 : t247 = true
    · subst c12
      have H1 : (if a3 = 16 then (if a4 = 8 then (if a1 < 0 then (cutroomref08_Predict.j0 k a1 a2 a3 a4 true a0_0 a0_1 l0_2 l0_3 l0_4 a5_0 a5_1) else (if a2 < 0 then (cutroomref08_Predict.j0 k a1 a2 a3 a4 true a0_0 a0_1 l0_2 l0_3 l0_4 a5_0 a5_1) else (if (Int.tmod a1 2) = 0 then (if (Int.tmod a2 2) = 0 then (if a1 > (wrap64 (a0_0 - a3)) then (cutroomref08_Predict.j0 k a1 a2 a3 a4 true a0_0 a0_1 l0_2 l0_3 l0_4 a5_0 a5_1) else (cutroomref08_Predict.j0 k a1 a2 a3 a4 (decide (a2 > (wrap64 (a0_1 - a4)))) a0_0 a0_1 l0_2 l0_3 l0_4 a5_0 a5_1)) else (cutroomref08_Predict.j0 k a1 a2 a3 a4 true a0_0 a0_1 l0_2 l0_3 l0_4 a5_0 a5_1)) else (cutroomref08_Predict.j0 k a1 a2 a3 a4 true a0_0 a0_1 l0_2 l0_3 l0_4 a5_0 a5_1)))) else (if a4 = 16 then (if a1 < 0 then (cutroomref08_Predict.j0 k a1 a2 a3 a4 true a0_0 a0_1 l0_2 l0_3 l0_4 a5_0 a5_1) else (if a2 < 0 then (cutroomref08_Predict.j0 k a1 a2 a3 a4 true a0_0 a0_1 l0_2 l0_3 l0_4 a5_0 a5_1) else (if (Int.tmod a1 2) = 0 then (if (Int.tmod a2 2) = 0 then (if a1 > (wrap64 (a0_0 - a3)) then (cutroomref08_Predict.j0 k a1 a2 a3 a4 true a0_0 a0_1 l0_2 l0_3 l0_4 a5_0 a5_1) else (cutroomref08_Predict.j0 k a1 a2 a3 a4 (decide (a2 > (wrap64 (a0_1 - a4)))) a0_0 a0_1 l0_2 l0_3 l0_4 a5_0 a5_1)) else (cutroomref08_Predict.j0 k a1 a2 a3 a4 true a0_0 a0_1 l0_2 l0_3 l0_4 a5_0 a5_1)) else (cutroomref08_Predict.j0 k a1 a2 a3 a4 true a0_0 a0_1 l0_2 l0_3 l0_4 a5_0 a5_1)))) else (cutroomref08_Predict.j0 k a1 a2 a3 a4 true a0_0 a0_1 l0_2 l0_3 l0_4 a5_0 a5_1))) else (cutroomref08_Predict.j0 k a1 a2 a3 a4 true a0_0 a0_1 l0_2 l0_3 l0_4 a5_0 a5_1)) = some (r1, r2, r3, r4, r5, r6) := by rw [if_pos rfl] at H; exact H
      clear H
      have H := H1
      clear H1
      by_cases c13 : a3 = 16
      · rw [if_pos c13] at H
        have c13b0 : (a3 == 16) = true := beq_iff_eq.mpr c13
        have c13b1 : (a3 != 16) = false := bne_eq_false_iff_eq.mpr c13
        clear c13
        (first | rw [c13b0] | (simp only [i64_w, i32_w]; rw [c13b0]) | skip)
        by_cases c14 : a4 = 8
        · rw [if_pos c14] at H
          have c14b0 : (a4 == 8) = true := beq_iff_eq.mpr c14
          have c14b1 : (a4 != 8) = false := bne_eq_false_iff_eq.mpr c14
          clear c14
          by_cases c15 : a1 < 0
          · rw [if_pos c15] at H
            have c15b0 : decide (a1 < 0) = true := decide_eq_true c15
            clear c15
            have H' := Aside0.mk H
            clear H
            have hnb16 := NB244_245.out
            have hnc16 := NB245_244.out
            have hnb17 := NB244_246.out
            have hnc17 := NB246_244.out
            have hcz18_0 : w10.cell? ⟨gb244, 0, none⟩ = some (.int .i64 a0_0) := (blk_cell BK244.out 0).trans rfl
            have hcz18_1 : w10.cell? ⟨gb244, 1, none⟩ = some (.int .i64 a0_1) := (blk_cell BK244.out 1).trans rfl
            have hcz18_2 : w10.cell? ⟨gb244, 2, none⟩ = some (.slice A0_2 l0_2.length c0_2) := (blk_cell BK244.out 2).trans rfl
            have hcz18_3 : w10.cell? ⟨gb244, 3, none⟩ = some (.slice A0_3 l0_3.length c0_3) := (blk_cell BK244.out 3).trans rfl
            have hcz18_4 : w10.cell? ⟨gb244, 4, none⟩ = some (.slice A0_4 l0_4.length c0_4) := (blk_cell BK244.out 4).trans rfl
            have hfz18_0 := blk_frozen BK244.out 0
            have hfz18_1 := blk_frozen BK244.out 1
            have hfz18_2 := blk_frozen BK244.out 2
            have hfz18_3 := blk_frozen BK244.out 3
            have hfz18_4 := blk_frozen BK244.out 4
            go_wp2_with (first | ((with_reducible refine gate_callee (f := 27) rfl ?_); refine goesL_ (some 15) rfl rfl Try.func27 (by kernel_rfl) rfl #[.agg #[.int .i64 a0_0, .int .i64 a0_1, .slice A0_2 l0_2.length c0_2, .slice A0_3 l0_3.length c0_3, .slice A0_4 l0_4.length c0_4]] rfl (by (try simp only [List.map_toArray, List.map_cons, List.map_nil]); first | done | rfl | (simp only [List.length_drop, List.length_take]; rfl)) ?_; (with_reducible refine (cutroomref07_Formed.calls a0_0 a0_1 _ _ l0_2 _ _ l0_3 _ _ l0_4 true _ ?side1 ?side2 ?side3 ?side4 ?side5 ?side6 A11.out).mono ?_); (case side1 => repeat (first | exact (Kd.C_below HR0_2.out HB.out) | (with_reducible refine Kd.C_alloc ?_ _) | (with_reducible refine Kd.C_drewN ?_ _) | (with_reducible refine Kd.C_drew ?_))); (case side2 => exact HC0_2.out); (case side3 => repeat (first | exact (Kd.C_below HR0_3.out HB.out) | (with_reducible refine Kd.C_alloc ?_ _) | (with_reducible refine Kd.C_drewN ?_ _) | (with_reducible refine Kd.C_drew ?_))); (case side4 => exact HC0_3.out); (case side5 => repeat (first | exact (Kd.C_below HR0_4.out HB.out) | (with_reducible refine Kd.C_alloc ?_ _) | (with_reducible refine Kd.C_drewN ?_ _) | (with_reducible refine Kd.C_drew ?_))); (case side6 => exact HC0_4.out); rintro e w19 ⟨rfl, hb⟩; refine ⟨_, rfl, ?_⟩; have n0_ := Aside0.mk (blk_below (g := gb244) (o := .cells #[.int .i64 a0_0, .int .i64 a0_1, .slice A0_2 l0_2.length c0_2, .slice A0_3 l0_3.length c0_3, .slice A0_4 l0_4.length c0_4] 24 (0, 0)) (by (with_reducible repeat (first | refine blk_drewN ?_ _ | refine blk_drew ?_ | refine blk_alloc ?_ _)); exact BK244.out) hb); have n1_ := Aside0.mk (blk_below (g := gb245) (o := .cells #[.int .i64 a5_0, .int .i64 a5_1] 32 (0, 0)) (by (with_reducible repeat (first | refine blk_drewN ?_ _ | refine blk_drew ?_ | refine blk_alloc ?_ _)); exact BK245.out) hb); have n2_ := Aside0.mk (blk_below (g := gb246) (o := .cells #[.int .i64 0, .int .i64 0, .slice none 0 0, .slice none 0 0, .slice none 0 0] 24 (0, 0)) (by (with_reducible repeat (first | refine blk_drewN ?_ _ | refine blk_drew ?_ | refine blk_alloc ?_ _)); exact BK246.out) hb); have n3_ := Aside0.mk (below_step (by repeat (first | (with_reducible first | exact HB.out | apply below_alloc | apply pw_below_drewN | apply below_drew1 | refine below_set ?_ GE244.out | refine below_set ?_ GE245.out | refine below_set ?_ GE246.out) | exact HB.out)) hb); clear BK244; clear BK245; clear BK246; clear HB; have BK244 := n0_; have BK245 := n1_; have BK246 := n2_; have HB := n3_; clear n0_ n1_ n2_ n3_; (try clear hb); (try clear hb2); (try clear hk); (try clear hi)))
            go_meet
            case rel => exact ⟨_, (true), (by first | rfl | (simp; done) | (simp [*]; done)), H', ⟨by first | omega | exact Nat.le_refl _⟩, ⟨by (with_reducible repeat (first | refine blk_drewN ?_ _ | refine blk_drew ?_ | refine blk_alloc ?_ _)); exact BK244.out⟩, ⟨by (with_reducible repeat (first | refine blk_drewN ?_ _ | refine blk_drew ?_ | refine blk_alloc ?_ _)); exact BK245.out⟩, ⟨by (with_reducible repeat (first | refine blk_drewN ?_ _ | refine blk_drew ?_ | refine blk_alloc ?_ _)); exact BK246.out⟩, ⟨by repeat (first | (with_reducible first | exact HB.out | apply below_alloc | apply pw_below_drewN | apply below_drew1 | refine below_set ?_ GE244.out | refine below_set ?_ GE245.out | refine below_set ?_ GE246.out) | exact HB.out)⟩⟩
          · rw [if_neg c15] at H
            have c15b0 : decide (a1 < 0) = false := decide_eq_false c15
            clear c15
            by_cases c20 : a2 < 0
            · rw [if_pos c20] at H
              have c20b0 : decide (a2 < 0) = true := decide_eq_true c20
              clear c20
              have H' := Aside0.mk H
              clear H
              have hnb21 := NB244_245.out
              have hnc21 := NB245_244.out
              have hnb22 := NB244_246.out
              have hnc22 := NB246_244.out
              have hcz23_0 : w10.cell? ⟨gb244, 0, none⟩ = some (.int .i64 a0_0) := (blk_cell BK244.out 0).trans rfl
              have hcz23_1 : w10.cell? ⟨gb244, 1, none⟩ = some (.int .i64 a0_1) := (blk_cell BK244.out 1).trans rfl
              have hcz23_2 : w10.cell? ⟨gb244, 2, none⟩ = some (.slice A0_2 l0_2.length c0_2) := (blk_cell BK244.out 2).trans rfl
              have hcz23_3 : w10.cell? ⟨gb244, 3, none⟩ = some (.slice A0_3 l0_3.length c0_3) := (blk_cell BK244.out 3).trans rfl
              have hcz23_4 : w10.cell? ⟨gb244, 4, none⟩ = some (.slice A0_4 l0_4.length c0_4) := (blk_cell BK244.out 4).trans rfl
              have hfz23_0 := blk_frozen BK244.out 0
              have hfz23_1 := blk_frozen BK244.out 1
              have hfz23_2 := blk_frozen BK244.out 2
              have hfz23_3 := blk_frozen BK244.out 3
              have hfz23_4 := blk_frozen BK244.out 4
              go_wp2_with (first | ((with_reducible refine gate_callee (f := 27) rfl ?_); refine goesL_ (some 15) rfl rfl Try.func27 (by kernel_rfl) rfl #[.agg #[.int .i64 a0_0, .int .i64 a0_1, .slice A0_2 l0_2.length c0_2, .slice A0_3 l0_3.length c0_3, .slice A0_4 l0_4.length c0_4]] rfl (by (try simp only [List.map_toArray, List.map_cons, List.map_nil]); first | done | rfl | (simp only [List.length_drop, List.length_take]; rfl)) ?_; (with_reducible refine (cutroomref07_Formed.calls a0_0 a0_1 _ _ l0_2 _ _ l0_3 _ _ l0_4 true _ ?side1 ?side2 ?side3 ?side4 ?side5 ?side6 A11.out).mono ?_); (case side1 => repeat (first | exact (Kd.C_below HR0_2.out HB.out) | (with_reducible refine Kd.C_alloc ?_ _) | (with_reducible refine Kd.C_drewN ?_ _) | (with_reducible refine Kd.C_drew ?_))); (case side2 => exact HC0_2.out); (case side3 => repeat (first | exact (Kd.C_below HR0_3.out HB.out) | (with_reducible refine Kd.C_alloc ?_ _) | (with_reducible refine Kd.C_drewN ?_ _) | (with_reducible refine Kd.C_drew ?_))); (case side4 => exact HC0_3.out); (case side5 => repeat (first | exact (Kd.C_below HR0_4.out HB.out) | (with_reducible refine Kd.C_alloc ?_ _) | (with_reducible refine Kd.C_drewN ?_ _) | (with_reducible refine Kd.C_drew ?_))); (case side6 => exact HC0_4.out); rintro e w24 ⟨rfl, hb⟩; refine ⟨_, rfl, ?_⟩; have n0_ := Aside0.mk (blk_below (g := gb244) (o := .cells #[.int .i64 a0_0, .int .i64 a0_1, .slice A0_2 l0_2.length c0_2, .slice A0_3 l0_3.length c0_3, .slice A0_4 l0_4.length c0_4] 24 (0, 0)) (by (with_reducible repeat (first | refine blk_drewN ?_ _ | refine blk_drew ?_ | refine blk_alloc ?_ _)); exact BK244.out) hb); have n1_ := Aside0.mk (blk_below (g := gb245) (o := .cells #[.int .i64 a5_0, .int .i64 a5_1] 32 (0, 0)) (by (with_reducible repeat (first | refine blk_drewN ?_ _ | refine blk_drew ?_ | refine blk_alloc ?_ _)); exact BK245.out) hb); have n2_ := Aside0.mk (blk_below (g := gb246) (o := .cells #[.int .i64 0, .int .i64 0, .slice none 0 0, .slice none 0 0, .slice none 0 0] 24 (0, 0)) (by (with_reducible repeat (first | refine blk_drewN ?_ _ | refine blk_drew ?_ | refine blk_alloc ?_ _)); exact BK246.out) hb); have n3_ := Aside0.mk (below_step (by repeat (first | (with_reducible first | exact HB.out | apply below_alloc | apply pw_below_drewN | apply below_drew1 | refine below_set ?_ GE244.out | refine below_set ?_ GE245.out | refine below_set ?_ GE246.out) | exact HB.out)) hb); clear BK244; clear BK245; clear BK246; clear HB; have BK244 := n0_; have BK245 := n1_; have BK246 := n2_; have HB := n3_; clear n0_ n1_ n2_ n3_; (try clear hb); (try clear hb2); (try clear hk); (try clear hi)))
              go_meet
              case rel => exact ⟨_, (true), (by first | rfl | (simp; done) | (simp [*]; done)), H', ⟨by first | omega | exact Nat.le_refl _⟩, ⟨by (with_reducible repeat (first | refine blk_drewN ?_ _ | refine blk_drew ?_ | refine blk_alloc ?_ _)); exact BK244.out⟩, ⟨by (with_reducible repeat (first | refine blk_drewN ?_ _ | refine blk_drew ?_ | refine blk_alloc ?_ _)); exact BK245.out⟩, ⟨by (with_reducible repeat (first | refine blk_drewN ?_ _ | refine blk_drew ?_ | refine blk_alloc ?_ _)); exact BK246.out⟩, ⟨by repeat (first | (with_reducible first | exact HB.out | apply below_alloc | apply pw_below_drewN | apply below_drew1 | refine below_set ?_ GE244.out | refine below_set ?_ GE245.out | refine below_set ?_ GE246.out) | exact HB.out)⟩⟩
            · rw [if_neg c20] at H
              have c20b0 : decide (a2 < 0) = false := decide_eq_false c20
              clear c20
              by_cases c25 : (Int.tmod a1 2) = 0
              · rw [if_pos c25] at H
                have c25b0 : ((Int.tmod a1 2) == 0) = true := beq_iff_eq.mpr c25
                have c25b1 : ((Int.tmod a1 2) != 0) = false := bne_eq_false_iff_eq.mpr c25
                clear c25
                by_cases c26 : (Int.tmod a2 2) = 0
                · rw [if_pos c26] at H
                  have c26b0 : ((Int.tmod a2 2) == 0) = true := beq_iff_eq.mpr c26
                  have c26b1 : ((Int.tmod a2 2) != 0) = false := bne_eq_false_iff_eq.mpr c26
                  clear c26
                  by_cases c27 : a1 > (wrap64 (a0_0 - a3))
                  · rw [if_pos c27] at H
                    have c27b0 : decide ((wrap64 (a0_0 - a3)) < a1) = true := decide_eq_true c27
                    clear c27
                    have H' := Aside0.mk H
                    clear H
                    have hnb28 := NB244_245.out
                    have hnc28 := NB245_244.out
                    have hnb29 := NB244_246.out
                    have hnc29 := NB246_244.out
                    have hcz30_0 : w10.cell? ⟨gb244, 0, none⟩ = some (.int .i64 a0_0) := (blk_cell BK244.out 0).trans rfl
                    have hcz30_1 : w10.cell? ⟨gb244, 1, none⟩ = some (.int .i64 a0_1) := (blk_cell BK244.out 1).trans rfl
                    have hcz30_2 : w10.cell? ⟨gb244, 2, none⟩ = some (.slice A0_2 l0_2.length c0_2) := (blk_cell BK244.out 2).trans rfl
                    have hcz30_3 : w10.cell? ⟨gb244, 3, none⟩ = some (.slice A0_3 l0_3.length c0_3) := (blk_cell BK244.out 3).trans rfl
                    have hcz30_4 : w10.cell? ⟨gb244, 4, none⟩ = some (.slice A0_4 l0_4.length c0_4) := (blk_cell BK244.out 4).trans rfl
                    have hfz30_0 := blk_frozen BK244.out 0
                    have hfz30_1 := blk_frozen BK244.out 1
                    have hfz30_2 := blk_frozen BK244.out 2
                    have hfz30_3 := blk_frozen BK244.out 3
                    have hfz30_4 := blk_frozen BK244.out 4
                    go_wp2_with (first | ((with_reducible refine gate_callee (f := 27) rfl ?_); refine goesL_ (some 15) rfl rfl Try.func27 (by kernel_rfl) rfl #[.agg #[.int .i64 a0_0, .int .i64 a0_1, .slice A0_2 l0_2.length c0_2, .slice A0_3 l0_3.length c0_3, .slice A0_4 l0_4.length c0_4]] rfl (by (try simp only [List.map_toArray, List.map_cons, List.map_nil]); first | done | rfl | (simp only [List.length_drop, List.length_take]; rfl)) ?_; (with_reducible refine (cutroomref07_Formed.calls a0_0 a0_1 _ _ l0_2 _ _ l0_3 _ _ l0_4 true _ ?side1 ?side2 ?side3 ?side4 ?side5 ?side6 A11.out).mono ?_); (case side1 => repeat (first | exact (Kd.C_below HR0_2.out HB.out) | (with_reducible refine Kd.C_alloc ?_ _) | (with_reducible refine Kd.C_drewN ?_ _) | (with_reducible refine Kd.C_drew ?_))); (case side2 => exact HC0_2.out); (case side3 => repeat (first | exact (Kd.C_below HR0_3.out HB.out) | (with_reducible refine Kd.C_alloc ?_ _) | (with_reducible refine Kd.C_drewN ?_ _) | (with_reducible refine Kd.C_drew ?_))); (case side4 => exact HC0_3.out); (case side5 => repeat (first | exact (Kd.C_below HR0_4.out HB.out) | (with_reducible refine Kd.C_alloc ?_ _) | (with_reducible refine Kd.C_drewN ?_ _) | (with_reducible refine Kd.C_drew ?_))); (case side6 => exact HC0_4.out); rintro e w31 ⟨rfl, hb⟩; refine ⟨_, rfl, ?_⟩; have n0_ := Aside0.mk (blk_below (g := gb244) (o := .cells #[.int .i64 a0_0, .int .i64 a0_1, .slice A0_2 l0_2.length c0_2, .slice A0_3 l0_3.length c0_3, .slice A0_4 l0_4.length c0_4] 24 (0, 0)) (by (with_reducible repeat (first | refine blk_drewN ?_ _ | refine blk_drew ?_ | refine blk_alloc ?_ _)); exact BK244.out) hb); have n1_ := Aside0.mk (blk_below (g := gb245) (o := .cells #[.int .i64 a5_0, .int .i64 a5_1] 32 (0, 0)) (by (with_reducible repeat (first | refine blk_drewN ?_ _ | refine blk_drew ?_ | refine blk_alloc ?_ _)); exact BK245.out) hb); have n2_ := Aside0.mk (blk_below (g := gb246) (o := .cells #[.int .i64 0, .int .i64 0, .slice none 0 0, .slice none 0 0, .slice none 0 0] 24 (0, 0)) (by (with_reducible repeat (first | refine blk_drewN ?_ _ | refine blk_drew ?_ | refine blk_alloc ?_ _)); exact BK246.out) hb); have n3_ := Aside0.mk (below_step (by repeat (first | (with_reducible first | exact HB.out | apply below_alloc | apply pw_below_drewN | apply below_drew1 | refine below_set ?_ GE244.out | refine below_set ?_ GE245.out | refine below_set ?_ GE246.out) | exact HB.out)) hb); clear BK244; clear BK245; clear BK246; clear HB; have BK244 := n0_; have BK245 := n1_; have BK246 := n2_; have HB := n3_; clear n0_ n1_ n2_ n3_; (try clear hb); (try clear hb2); (try clear hk); (try clear hi); have hcz32_0 : w31.cell? ⟨gb244, 0, none⟩ = some (.int .i64 a0_0) := (blk_cell BK244.out 0).trans rfl; have hcz32_1 : w31.cell? ⟨gb244, 1, none⟩ = some (.int .i64 a0_1) := (blk_cell BK244.out 1).trans rfl; have hcz32_2 : w31.cell? ⟨gb244, 2, none⟩ = some (.slice A0_2 l0_2.length c0_2) := (blk_cell BK244.out 2).trans rfl; have hcz32_3 : w31.cell? ⟨gb244, 3, none⟩ = some (.slice A0_3 l0_3.length c0_3) := (blk_cell BK244.out 3).trans rfl; have hcz32_4 : w31.cell? ⟨gb244, 4, none⟩ = some (.slice A0_4 l0_4.length c0_4) := (blk_cell BK244.out 4).trans rfl; have hfz32_0 := blk_frozen BK244.out 0; have hfz32_1 := blk_frozen BK244.out 1; have hfz32_2 := blk_frozen BK244.out 2; have hfz32_3 := blk_frozen BK244.out 3; have hfz32_4 := blk_frozen BK244.out 4))
                    go_meet
                    case rel => exact ⟨_, (true), (by first | rfl | (simp; done) | (simp [*]; done)), H', ⟨by first | omega | exact Nat.le_refl _⟩, ⟨by (with_reducible repeat (first | refine blk_drewN ?_ _ | refine blk_drew ?_ | refine blk_alloc ?_ _)); exact BK244.out⟩, ⟨by (with_reducible repeat (first | refine blk_drewN ?_ _ | refine blk_drew ?_ | refine blk_alloc ?_ _)); exact BK245.out⟩, ⟨by (with_reducible repeat (first | refine blk_drewN ?_ _ | refine blk_drew ?_ | refine blk_alloc ?_ _)); exact BK246.out⟩, ⟨by repeat (first | (with_reducible first | exact HB.out | apply below_alloc | apply pw_below_drewN | apply below_drew1 | refine below_set ?_ GE244.out | refine below_set ?_ GE245.out | refine below_set ?_ GE246.out) | exact HB.out)⟩⟩
                  · rw [if_neg c27] at H
                    have c27b0 : decide ((wrap64 (a0_0 - a3)) < a1) = false := decide_eq_false c27
                    clear c27
                    have H' := Aside0.mk H
                    clear H
                    have hnb33 := NB244_245.out
                    have hnc33 := NB245_244.out
                    have hnb34 := NB244_246.out
                    have hnc34 := NB246_244.out
                    have hcz35_0 : w10.cell? ⟨gb244, 0, none⟩ = some (.int .i64 a0_0) := (blk_cell BK244.out 0).trans rfl
                    have hcz35_1 : w10.cell? ⟨gb244, 1, none⟩ = some (.int .i64 a0_1) := (blk_cell BK244.out 1).trans rfl
                    have hcz35_2 : w10.cell? ⟨gb244, 2, none⟩ = some (.slice A0_2 l0_2.length c0_2) := (blk_cell BK244.out 2).trans rfl
                    have hcz35_3 : w10.cell? ⟨gb244, 3, none⟩ = some (.slice A0_3 l0_3.length c0_3) := (blk_cell BK244.out 3).trans rfl
                    have hcz35_4 : w10.cell? ⟨gb244, 4, none⟩ = some (.slice A0_4 l0_4.length c0_4) := (blk_cell BK244.out 4).trans rfl
                    have hfz35_0 := blk_frozen BK244.out 0
                    have hfz35_1 := blk_frozen BK244.out 1
                    have hfz35_2 := blk_frozen BK244.out 2
                    have hfz35_3 := blk_frozen BK244.out 3
                    have hfz35_4 := blk_frozen BK244.out 4
                    go_wp2_with (first | ((with_reducible refine gate_callee (f := 27) rfl ?_); refine goesL_ (some 15) rfl rfl Try.func27 (by kernel_rfl) rfl #[.agg #[.int .i64 a0_0, .int .i64 a0_1, .slice A0_2 l0_2.length c0_2, .slice A0_3 l0_3.length c0_3, .slice A0_4 l0_4.length c0_4]] rfl (by (try simp only [List.map_toArray, List.map_cons, List.map_nil]); first | done | rfl | (simp only [List.length_drop, List.length_take]; rfl)) ?_; (with_reducible refine (cutroomref07_Formed.calls a0_0 a0_1 _ _ l0_2 _ _ l0_3 _ _ l0_4 true _ ?side1 ?side2 ?side3 ?side4 ?side5 ?side6 A11.out).mono ?_); (case side1 => repeat (first | exact (Kd.C_below HR0_2.out HB.out) | (with_reducible refine Kd.C_alloc ?_ _) | (with_reducible refine Kd.C_drewN ?_ _) | (with_reducible refine Kd.C_drew ?_))); (case side2 => exact HC0_2.out); (case side3 => repeat (first | exact (Kd.C_below HR0_3.out HB.out) | (with_reducible refine Kd.C_alloc ?_ _) | (with_reducible refine Kd.C_drewN ?_ _) | (with_reducible refine Kd.C_drew ?_))); (case side4 => exact HC0_3.out); (case side5 => repeat (first | exact (Kd.C_below HR0_4.out HB.out) | (with_reducible refine Kd.C_alloc ?_ _) | (with_reducible refine Kd.C_drewN ?_ _) | (with_reducible refine Kd.C_drew ?_))); (case side6 => exact HC0_4.out); rintro e w36 ⟨rfl, hb⟩; refine ⟨_, rfl, ?_⟩; have n0_ := Aside0.mk (blk_below (g := gb244) (o := .cells #[.int .i64 a0_0, .int .i64 a0_1, .slice A0_2 l0_2.length c0_2, .slice A0_3 l0_3.length c0_3, .slice A0_4 l0_4.length c0_4] 24 (0, 0)) (by (with_reducible repeat (first | refine blk_drewN ?_ _ | refine blk_drew ?_ | refine blk_alloc ?_ _)); exact BK244.out) hb); have n1_ := Aside0.mk (blk_below (g := gb245) (o := .cells #[.int .i64 a5_0, .int .i64 a5_1] 32 (0, 0)) (by (with_reducible repeat (first | refine blk_drewN ?_ _ | refine blk_drew ?_ | refine blk_alloc ?_ _)); exact BK245.out) hb); have n2_ := Aside0.mk (blk_below (g := gb246) (o := .cells #[.int .i64 0, .int .i64 0, .slice none 0 0, .slice none 0 0, .slice none 0 0] 24 (0, 0)) (by (with_reducible repeat (first | refine blk_drewN ?_ _ | refine blk_drew ?_ | refine blk_alloc ?_ _)); exact BK246.out) hb); have n3_ := Aside0.mk (below_step (by repeat (first | (with_reducible first | exact HB.out | apply below_alloc | apply pw_below_drewN | apply below_drew1 | refine below_set ?_ GE244.out | refine below_set ?_ GE245.out | refine below_set ?_ GE246.out) | exact HB.out)) hb); clear BK244; clear BK245; clear BK246; clear HB; have BK244 := n0_; have BK245 := n1_; have BK246 := n2_; have HB := n3_; clear n0_ n1_ n2_ n3_; (try clear hb); (try clear hb2); (try clear hk); (try clear hi); have hcz37_0 : w36.cell? ⟨gb244, 0, none⟩ = some (.int .i64 a0_0) := (blk_cell BK244.out 0).trans rfl; have hcz37_1 : w36.cell? ⟨gb244, 1, none⟩ = some (.int .i64 a0_1) := (blk_cell BK244.out 1).trans rfl; have hcz37_2 : w36.cell? ⟨gb244, 2, none⟩ = some (.slice A0_2 l0_2.length c0_2) := (blk_cell BK244.out 2).trans rfl; have hcz37_3 : w36.cell? ⟨gb244, 3, none⟩ = some (.slice A0_3 l0_3.length c0_3) := (blk_cell BK244.out 3).trans rfl; have hcz37_4 : w36.cell? ⟨gb244, 4, none⟩ = some (.slice A0_4 l0_4.length c0_4) := (blk_cell BK244.out 4).trans rfl; have hfz37_0 := blk_frozen BK244.out 0; have hfz37_1 := blk_frozen BK244.out 1; have hfz37_2 := blk_frozen BK244.out 2; have hfz37_3 := blk_frozen BK244.out 3; have hfz37_4 := blk_frozen BK244.out 4))
                    go_meet
                    case rel => exact ⟨_, (decide (a2 > (wrap64 (a0_1 - a4)))), (by first | rfl | (simp; done) | (simp [*]; done)), H', ⟨by first | omega | exact Nat.le_refl _⟩, ⟨by (with_reducible repeat (first | refine blk_drewN ?_ _ | refine blk_drew ?_ | refine blk_alloc ?_ _)); exact BK244.out⟩, ⟨by (with_reducible repeat (first | refine blk_drewN ?_ _ | refine blk_drew ?_ | refine blk_alloc ?_ _)); exact BK245.out⟩, ⟨by (with_reducible repeat (first | refine blk_drewN ?_ _ | refine blk_drew ?_ | refine blk_alloc ?_ _)); exact BK246.out⟩, ⟨by repeat (first | (with_reducible first | exact HB.out | apply below_alloc | apply pw_below_drewN | apply below_drew1 | refine below_set ?_ GE244.out | refine below_set ?_ GE245.out | refine below_set ?_ GE246.out) | exact HB.out)⟩⟩
                · rw [if_neg c26] at H
                  have c26b0 : ((Int.tmod a2 2) == 0) = false := beq_eq_false_iff_ne.mpr c26
                  have c26b1 : ((Int.tmod a2 2) != 0) = true := bne_iff_ne.mpr c26
                  have H' := Aside0.mk H
                  clear H
                  have hnb38 := NB244_245.out
                  have hnc38 := NB245_244.out
                  have hnb39 := NB244_246.out
                  have hnc39 := NB246_244.out
                  have hcz40_0 : w10.cell? ⟨gb244, 0, none⟩ = some (.int .i64 a0_0) := (blk_cell BK244.out 0).trans rfl
                  have hcz40_1 : w10.cell? ⟨gb244, 1, none⟩ = some (.int .i64 a0_1) := (blk_cell BK244.out 1).trans rfl
                  have hcz40_2 : w10.cell? ⟨gb244, 2, none⟩ = some (.slice A0_2 l0_2.length c0_2) := (blk_cell BK244.out 2).trans rfl
                  have hcz40_3 : w10.cell? ⟨gb244, 3, none⟩ = some (.slice A0_3 l0_3.length c0_3) := (blk_cell BK244.out 3).trans rfl
                  have hcz40_4 : w10.cell? ⟨gb244, 4, none⟩ = some (.slice A0_4 l0_4.length c0_4) := (blk_cell BK244.out 4).trans rfl
                  have hfz40_0 := blk_frozen BK244.out 0
                  have hfz40_1 := blk_frozen BK244.out 1
                  have hfz40_2 := blk_frozen BK244.out 2
                  have hfz40_3 := blk_frozen BK244.out 3
                  have hfz40_4 := blk_frozen BK244.out 4
                  go_wp2_with (first | ((with_reducible refine gate_callee (f := 27) rfl ?_); refine goesL_ (some 15) rfl rfl Try.func27 (by kernel_rfl) rfl #[.agg #[.int .i64 a0_0, .int .i64 a0_1, .slice A0_2 l0_2.length c0_2, .slice A0_3 l0_3.length c0_3, .slice A0_4 l0_4.length c0_4]] rfl (by (try simp only [List.map_toArray, List.map_cons, List.map_nil]); first | done | rfl | (simp only [List.length_drop, List.length_take]; rfl)) ?_; (with_reducible refine (cutroomref07_Formed.calls a0_0 a0_1 _ _ l0_2 _ _ l0_3 _ _ l0_4 true _ ?side1 ?side2 ?side3 ?side4 ?side5 ?side6 A11.out).mono ?_); (case side1 => repeat (first | exact (Kd.C_below HR0_2.out HB.out) | (with_reducible refine Kd.C_alloc ?_ _) | (with_reducible refine Kd.C_drewN ?_ _) | (with_reducible refine Kd.C_drew ?_))); (case side2 => exact HC0_2.out); (case side3 => repeat (first | exact (Kd.C_below HR0_3.out HB.out) | (with_reducible refine Kd.C_alloc ?_ _) | (with_reducible refine Kd.C_drewN ?_ _) | (with_reducible refine Kd.C_drew ?_))); (case side4 => exact HC0_3.out); (case side5 => repeat (first | exact (Kd.C_below HR0_4.out HB.out) | (with_reducible refine Kd.C_alloc ?_ _) | (with_reducible refine Kd.C_drewN ?_ _) | (with_reducible refine Kd.C_drew ?_))); (case side6 => exact HC0_4.out); rintro e w41 ⟨rfl, hb⟩; refine ⟨_, rfl, ?_⟩; have n0_ := Aside0.mk (blk_below (g := gb244) (o := .cells #[.int .i64 a0_0, .int .i64 a0_1, .slice A0_2 l0_2.length c0_2, .slice A0_3 l0_3.length c0_3, .slice A0_4 l0_4.length c0_4] 24 (0, 0)) (by (with_reducible repeat (first | refine blk_drewN ?_ _ | refine blk_drew ?_ | refine blk_alloc ?_ _)); exact BK244.out) hb); have n1_ := Aside0.mk (blk_below (g := gb245) (o := .cells #[.int .i64 a5_0, .int .i64 a5_1] 32 (0, 0)) (by (with_reducible repeat (first | refine blk_drewN ?_ _ | refine blk_drew ?_ | refine blk_alloc ?_ _)); exact BK245.out) hb); have n2_ := Aside0.mk (blk_below (g := gb246) (o := .cells #[.int .i64 0, .int .i64 0, .slice none 0 0, .slice none 0 0, .slice none 0 0] 24 (0, 0)) (by (with_reducible repeat (first | refine blk_drewN ?_ _ | refine blk_drew ?_ | refine blk_alloc ?_ _)); exact BK246.out) hb); have n3_ := Aside0.mk (below_step (by repeat (first | (with_reducible first | exact HB.out | apply below_alloc | apply pw_below_drewN | apply below_drew1 | refine below_set ?_ GE244.out | refine below_set ?_ GE245.out | refine below_set ?_ GE246.out) | exact HB.out)) hb); clear BK244; clear BK245; clear BK246; clear HB; have BK244 := n0_; have BK245 := n1_; have BK246 := n2_; have HB := n3_; clear n0_ n1_ n2_ n3_; (try clear hb); (try clear hb2); (try clear hk); (try clear hi)))
                  go_meet
                  case rel => exact ⟨_, (true), (by first | rfl | (simp; done) | (simp [*]; done)), H', ⟨by first | omega | exact Nat.le_refl _⟩, ⟨by (with_reducible repeat (first | refine blk_drewN ?_ _ | refine blk_drew ?_ | refine blk_alloc ?_ _)); exact BK244.out⟩, ⟨by (with_reducible repeat (first | refine blk_drewN ?_ _ | refine blk_drew ?_ | refine blk_alloc ?_ _)); exact BK245.out⟩, ⟨by (with_reducible repeat (first | refine blk_drewN ?_ _ | refine blk_drew ?_ | refine blk_alloc ?_ _)); exact BK246.out⟩, ⟨by repeat (first | (with_reducible first | exact HB.out | apply below_alloc | apply pw_below_drewN | apply below_drew1 | refine below_set ?_ GE244.out | refine below_set ?_ GE245.out | refine below_set ?_ GE246.out) | exact HB.out)⟩⟩
              · rw [if_neg c25] at H
                have c25b0 : ((Int.tmod a1 2) == 0) = false := beq_eq_false_iff_ne.mpr c25
                have c25b1 : ((Int.tmod a1 2) != 0) = true := bne_iff_ne.mpr c25
                have H' := Aside0.mk H
                clear H
                have hnb42 := NB244_245.out
                have hnc42 := NB245_244.out
                have hnb43 := NB244_246.out
                have hnc43 := NB246_244.out
                have hcz44_0 : w10.cell? ⟨gb244, 0, none⟩ = some (.int .i64 a0_0) := (blk_cell BK244.out 0).trans rfl
                have hcz44_1 : w10.cell? ⟨gb244, 1, none⟩ = some (.int .i64 a0_1) := (blk_cell BK244.out 1).trans rfl
                have hcz44_2 : w10.cell? ⟨gb244, 2, none⟩ = some (.slice A0_2 l0_2.length c0_2) := (blk_cell BK244.out 2).trans rfl
                have hcz44_3 : w10.cell? ⟨gb244, 3, none⟩ = some (.slice A0_3 l0_3.length c0_3) := (blk_cell BK244.out 3).trans rfl
                have hcz44_4 : w10.cell? ⟨gb244, 4, none⟩ = some (.slice A0_4 l0_4.length c0_4) := (blk_cell BK244.out 4).trans rfl
                have hfz44_0 := blk_frozen BK244.out 0
                have hfz44_1 := blk_frozen BK244.out 1
                have hfz44_2 := blk_frozen BK244.out 2
                have hfz44_3 := blk_frozen BK244.out 3
                have hfz44_4 := blk_frozen BK244.out 4
                go_wp2_with (first | ((with_reducible refine gate_callee (f := 27) rfl ?_); refine goesL_ (some 15) rfl rfl Try.func27 (by kernel_rfl) rfl #[.agg #[.int .i64 a0_0, .int .i64 a0_1, .slice A0_2 l0_2.length c0_2, .slice A0_3 l0_3.length c0_3, .slice A0_4 l0_4.length c0_4]] rfl (by (try simp only [List.map_toArray, List.map_cons, List.map_nil]); first | done | rfl | (simp only [List.length_drop, List.length_take]; rfl)) ?_; (with_reducible refine (cutroomref07_Formed.calls a0_0 a0_1 _ _ l0_2 _ _ l0_3 _ _ l0_4 true _ ?side1 ?side2 ?side3 ?side4 ?side5 ?side6 A11.out).mono ?_); (case side1 => repeat (first | exact (Kd.C_below HR0_2.out HB.out) | (with_reducible refine Kd.C_alloc ?_ _) | (with_reducible refine Kd.C_drewN ?_ _) | (with_reducible refine Kd.C_drew ?_))); (case side2 => exact HC0_2.out); (case side3 => repeat (first | exact (Kd.C_below HR0_3.out HB.out) | (with_reducible refine Kd.C_alloc ?_ _) | (with_reducible refine Kd.C_drewN ?_ _) | (with_reducible refine Kd.C_drew ?_))); (case side4 => exact HC0_3.out); (case side5 => repeat (first | exact (Kd.C_below HR0_4.out HB.out) | (with_reducible refine Kd.C_alloc ?_ _) | (with_reducible refine Kd.C_drewN ?_ _) | (with_reducible refine Kd.C_drew ?_))); (case side6 => exact HC0_4.out); rintro e w45 ⟨rfl, hb⟩; refine ⟨_, rfl, ?_⟩; have n0_ := Aside0.mk (blk_below (g := gb244) (o := .cells #[.int .i64 a0_0, .int .i64 a0_1, .slice A0_2 l0_2.length c0_2, .slice A0_3 l0_3.length c0_3, .slice A0_4 l0_4.length c0_4] 24 (0, 0)) (by (with_reducible repeat (first | refine blk_drewN ?_ _ | refine blk_drew ?_ | refine blk_alloc ?_ _)); exact BK244.out) hb); have n1_ := Aside0.mk (blk_below (g := gb245) (o := .cells #[.int .i64 a5_0, .int .i64 a5_1] 32 (0, 0)) (by (with_reducible repeat (first | refine blk_drewN ?_ _ | refine blk_drew ?_ | refine blk_alloc ?_ _)); exact BK245.out) hb); have n2_ := Aside0.mk (blk_below (g := gb246) (o := .cells #[.int .i64 0, .int .i64 0, .slice none 0 0, .slice none 0 0, .slice none 0 0] 24 (0, 0)) (by (with_reducible repeat (first | refine blk_drewN ?_ _ | refine blk_drew ?_ | refine blk_alloc ?_ _)); exact BK246.out) hb); have n3_ := Aside0.mk (below_step (by repeat (first | (with_reducible first | exact HB.out | apply below_alloc | apply pw_below_drewN | apply below_drew1 | refine below_set ?_ GE244.out | refine below_set ?_ GE245.out | refine below_set ?_ GE246.out) | exact HB.out)) hb); clear BK244; clear BK245; clear BK246; clear HB; have BK244 := n0_; have BK245 := n1_; have BK246 := n2_; have HB := n3_; clear n0_ n1_ n2_ n3_; (try clear hb); (try clear hb2); (try clear hk); (try clear hi)))
                go_meet
                case rel => exact ⟨_, (true), (by first | rfl | (simp; done) | (simp [*]; done)), H', ⟨by first | omega | exact Nat.le_refl _⟩, ⟨by (with_reducible repeat (first | refine blk_drewN ?_ _ | refine blk_drew ?_ | refine blk_alloc ?_ _)); exact BK244.out⟩, ⟨by (with_reducible repeat (first | refine blk_drewN ?_ _ | refine blk_drew ?_ | refine blk_alloc ?_ _)); exact BK245.out⟩, ⟨by (with_reducible repeat (first | refine blk_drewN ?_ _ | refine blk_drew ?_ | refine blk_alloc ?_ _)); exact BK246.out⟩, ⟨by repeat (first | (with_reducible first | exact HB.out | apply below_alloc | apply pw_below_drewN | apply below_drew1 | refine below_set ?_ GE244.out | refine below_set ?_ GE245.out | refine below_set ?_ GE246.out) | exact HB.out)⟩⟩
        · rw [if_neg c14] at H
          have c14b0 : (a4 == 8) = false := beq_eq_false_iff_ne.mpr c14
          have c14b1 : (a4 != 8) = true := bne_iff_ne.mpr c14
          by_cases c46 : a4 = 16
          · rw [if_pos c46] at H
            have c46b0 : (a4 == 16) = true := beq_iff_eq.mpr c46
            have c46b1 : (a4 != 16) = false := bne_eq_false_iff_eq.mpr c46
            clear c46
            by_cases c47 : a1 < 0
            · rw [if_pos c47] at H
              have c47b0 : decide (a1 < 0) = true := decide_eq_true c47
              clear c47
              have H' := Aside0.mk H
              clear H
              have hnb48 := NB244_245.out
              have hnc48 := NB245_244.out
              have hnb49 := NB244_246.out
              have hnc49 := NB246_244.out
              have hcz50_0 : w10.cell? ⟨gb244, 0, none⟩ = some (.int .i64 a0_0) := (blk_cell BK244.out 0).trans rfl
              have hcz50_1 : w10.cell? ⟨gb244, 1, none⟩ = some (.int .i64 a0_1) := (blk_cell BK244.out 1).trans rfl
              have hcz50_2 : w10.cell? ⟨gb244, 2, none⟩ = some (.slice A0_2 l0_2.length c0_2) := (blk_cell BK244.out 2).trans rfl
              have hcz50_3 : w10.cell? ⟨gb244, 3, none⟩ = some (.slice A0_3 l0_3.length c0_3) := (blk_cell BK244.out 3).trans rfl
              have hcz50_4 : w10.cell? ⟨gb244, 4, none⟩ = some (.slice A0_4 l0_4.length c0_4) := (blk_cell BK244.out 4).trans rfl
              have hfz50_0 := blk_frozen BK244.out 0
              have hfz50_1 := blk_frozen BK244.out 1
              have hfz50_2 := blk_frozen BK244.out 2
              have hfz50_3 := blk_frozen BK244.out 3
              have hfz50_4 := blk_frozen BK244.out 4
              go_wp2_with (first | ((with_reducible refine gate_callee (f := 27) rfl ?_); refine goesL_ (some 15) rfl rfl Try.func27 (by kernel_rfl) rfl #[.agg #[.int .i64 a0_0, .int .i64 a0_1, .slice A0_2 l0_2.length c0_2, .slice A0_3 l0_3.length c0_3, .slice A0_4 l0_4.length c0_4]] rfl (by (try simp only [List.map_toArray, List.map_cons, List.map_nil]); first | done | rfl | (simp only [List.length_drop, List.length_take]; rfl)) ?_; (with_reducible refine (cutroomref07_Formed.calls a0_0 a0_1 _ _ l0_2 _ _ l0_3 _ _ l0_4 true _ ?side1 ?side2 ?side3 ?side4 ?side5 ?side6 A11.out).mono ?_); (case side1 => repeat (first | exact (Kd.C_below HR0_2.out HB.out) | (with_reducible refine Kd.C_alloc ?_ _) | (with_reducible refine Kd.C_drewN ?_ _) | (with_reducible refine Kd.C_drew ?_))); (case side2 => exact HC0_2.out); (case side3 => repeat (first | exact (Kd.C_below HR0_3.out HB.out) | (with_reducible refine Kd.C_alloc ?_ _) | (with_reducible refine Kd.C_drewN ?_ _) | (with_reducible refine Kd.C_drew ?_))); (case side4 => exact HC0_3.out); (case side5 => repeat (first | exact (Kd.C_below HR0_4.out HB.out) | (with_reducible refine Kd.C_alloc ?_ _) | (with_reducible refine Kd.C_drewN ?_ _) | (with_reducible refine Kd.C_drew ?_))); (case side6 => exact HC0_4.out); rintro e w51 ⟨rfl, hb⟩; refine ⟨_, rfl, ?_⟩; have n0_ := Aside0.mk (blk_below (g := gb244) (o := .cells #[.int .i64 a0_0, .int .i64 a0_1, .slice A0_2 l0_2.length c0_2, .slice A0_3 l0_3.length c0_3, .slice A0_4 l0_4.length c0_4] 24 (0, 0)) (by (with_reducible repeat (first | refine blk_drewN ?_ _ | refine blk_drew ?_ | refine blk_alloc ?_ _)); exact BK244.out) hb); have n1_ := Aside0.mk (blk_below (g := gb245) (o := .cells #[.int .i64 a5_0, .int .i64 a5_1] 32 (0, 0)) (by (with_reducible repeat (first | refine blk_drewN ?_ _ | refine blk_drew ?_ | refine blk_alloc ?_ _)); exact BK245.out) hb); have n2_ := Aside0.mk (blk_below (g := gb246) (o := .cells #[.int .i64 0, .int .i64 0, .slice none 0 0, .slice none 0 0, .slice none 0 0] 24 (0, 0)) (by (with_reducible repeat (first | refine blk_drewN ?_ _ | refine blk_drew ?_ | refine blk_alloc ?_ _)); exact BK246.out) hb); have n3_ := Aside0.mk (below_step (by repeat (first | (with_reducible first | exact HB.out | apply below_alloc | apply pw_below_drewN | apply below_drew1 | refine below_set ?_ GE244.out | refine below_set ?_ GE245.out | refine below_set ?_ GE246.out) | exact HB.out)) hb); clear BK244; clear BK245; clear BK246; clear HB; have BK244 := n0_; have BK245 := n1_; have BK246 := n2_; have HB := n3_; clear n0_ n1_ n2_ n3_; (try clear hb); (try clear hb2); (try clear hk); (try clear hi)))
              go_meet
              case rel => exact ⟨_, (true), (by first | rfl | (simp; done) | (simp [*]; done)), H', ⟨by first | omega | exact Nat.le_refl _⟩, ⟨by (with_reducible repeat (first | refine blk_drewN ?_ _ | refine blk_drew ?_ | refine blk_alloc ?_ _)); exact BK244.out⟩, ⟨by (with_reducible repeat (first | refine blk_drewN ?_ _ | refine blk_drew ?_ | refine blk_alloc ?_ _)); exact BK245.out⟩, ⟨by (with_reducible repeat (first | refine blk_drewN ?_ _ | refine blk_drew ?_ | refine blk_alloc ?_ _)); exact BK246.out⟩, ⟨by repeat (first | (with_reducible first | exact HB.out | apply below_alloc | apply pw_below_drewN | apply below_drew1 | refine below_set ?_ GE244.out | refine below_set ?_ GE245.out | refine below_set ?_ GE246.out) | exact HB.out)⟩⟩
            · rw [if_neg c47] at H
              have c47b0 : decide (a1 < 0) = false := decide_eq_false c47
              clear c47
              by_cases c52 : a2 < 0
              · rw [if_pos c52] at H
                have c52b0 : decide (a2 < 0) = true := decide_eq_true c52
                clear c52
                have H' := Aside0.mk H
                clear H
                have hnb53 := NB244_245.out
                have hnc53 := NB245_244.out
                have hnb54 := NB244_246.out
                have hnc54 := NB246_244.out
                have hcz55_0 : w10.cell? ⟨gb244, 0, none⟩ = some (.int .i64 a0_0) := (blk_cell BK244.out 0).trans rfl
                have hcz55_1 : w10.cell? ⟨gb244, 1, none⟩ = some (.int .i64 a0_1) := (blk_cell BK244.out 1).trans rfl
                have hcz55_2 : w10.cell? ⟨gb244, 2, none⟩ = some (.slice A0_2 l0_2.length c0_2) := (blk_cell BK244.out 2).trans rfl
                have hcz55_3 : w10.cell? ⟨gb244, 3, none⟩ = some (.slice A0_3 l0_3.length c0_3) := (blk_cell BK244.out 3).trans rfl
                have hcz55_4 : w10.cell? ⟨gb244, 4, none⟩ = some (.slice A0_4 l0_4.length c0_4) := (blk_cell BK244.out 4).trans rfl
                have hfz55_0 := blk_frozen BK244.out 0
                have hfz55_1 := blk_frozen BK244.out 1
                have hfz55_2 := blk_frozen BK244.out 2
                have hfz55_3 := blk_frozen BK244.out 3
                have hfz55_4 := blk_frozen BK244.out 4
                go_wp2_with (first | ((with_reducible refine gate_callee (f := 27) rfl ?_); refine goesL_ (some 15) rfl rfl Try.func27 (by kernel_rfl) rfl #[.agg #[.int .i64 a0_0, .int .i64 a0_1, .slice A0_2 l0_2.length c0_2, .slice A0_3 l0_3.length c0_3, .slice A0_4 l0_4.length c0_4]] rfl (by (try simp only [List.map_toArray, List.map_cons, List.map_nil]); first | done | rfl | (simp only [List.length_drop, List.length_take]; rfl)) ?_; (with_reducible refine (cutroomref07_Formed.calls a0_0 a0_1 _ _ l0_2 _ _ l0_3 _ _ l0_4 true _ ?side1 ?side2 ?side3 ?side4 ?side5 ?side6 A11.out).mono ?_); (case side1 => repeat (first | exact (Kd.C_below HR0_2.out HB.out) | (with_reducible refine Kd.C_alloc ?_ _) | (with_reducible refine Kd.C_drewN ?_ _) | (with_reducible refine Kd.C_drew ?_))); (case side2 => exact HC0_2.out); (case side3 => repeat (first | exact (Kd.C_below HR0_3.out HB.out) | (with_reducible refine Kd.C_alloc ?_ _) | (with_reducible refine Kd.C_drewN ?_ _) | (with_reducible refine Kd.C_drew ?_))); (case side4 => exact HC0_3.out); (case side5 => repeat (first | exact (Kd.C_below HR0_4.out HB.out) | (with_reducible refine Kd.C_alloc ?_ _) | (with_reducible refine Kd.C_drewN ?_ _) | (with_reducible refine Kd.C_drew ?_))); (case side6 => exact HC0_4.out); rintro e w56 ⟨rfl, hb⟩; refine ⟨_, rfl, ?_⟩; have n0_ := Aside0.mk (blk_below (g := gb244) (o := .cells #[.int .i64 a0_0, .int .i64 a0_1, .slice A0_2 l0_2.length c0_2, .slice A0_3 l0_3.length c0_3, .slice A0_4 l0_4.length c0_4] 24 (0, 0)) (by (with_reducible repeat (first | refine blk_drewN ?_ _ | refine blk_drew ?_ | refine blk_alloc ?_ _)); exact BK244.out) hb); have n1_ := Aside0.mk (blk_below (g := gb245) (o := .cells #[.int .i64 a5_0, .int .i64 a5_1] 32 (0, 0)) (by (with_reducible repeat (first | refine blk_drewN ?_ _ | refine blk_drew ?_ | refine blk_alloc ?_ _)); exact BK245.out) hb); have n2_ := Aside0.mk (blk_below (g := gb246) (o := .cells #[.int .i64 0, .int .i64 0, .slice none 0 0, .slice none 0 0, .slice none 0 0] 24 (0, 0)) (by (with_reducible repeat (first | refine blk_drewN ?_ _ | refine blk_drew ?_ | refine blk_alloc ?_ _)); exact BK246.out) hb); have n3_ := Aside0.mk (below_step (by repeat (first | (with_reducible first | exact HB.out | apply below_alloc | apply pw_below_drewN | apply below_drew1 | refine below_set ?_ GE244.out | refine below_set ?_ GE245.out | refine below_set ?_ GE246.out) | exact HB.out)) hb); clear BK244; clear BK245; clear BK246; clear HB; have BK244 := n0_; have BK245 := n1_; have BK246 := n2_; have HB := n3_; clear n0_ n1_ n2_ n3_; (try clear hb); (try clear hb2); (try clear hk); (try clear hi)))
                go_meet
                case rel => exact ⟨_, (true), (by first | rfl | (simp; done) | (simp [*]; done)), H', ⟨by first | omega | exact Nat.le_refl _⟩, ⟨by (with_reducible repeat (first | refine blk_drewN ?_ _ | refine blk_drew ?_ | refine blk_alloc ?_ _)); exact BK244.out⟩, ⟨by (with_reducible repeat (first | refine blk_drewN ?_ _ | refine blk_drew ?_ | refine blk_alloc ?_ _)); exact BK245.out⟩, ⟨by (with_reducible repeat (first | refine blk_drewN ?_ _ | refine blk_drew ?_ | refine blk_alloc ?_ _)); exact BK246.out⟩, ⟨by repeat (first | (with_reducible first | exact HB.out | apply below_alloc | apply pw_below_drewN | apply below_drew1 | refine below_set ?_ GE244.out | refine below_set ?_ GE245.out | refine below_set ?_ GE246.out) | exact HB.out)⟩⟩
              · rw [if_neg c52] at H
                have c52b0 : decide (a2 < 0) = false := decide_eq_false c52
                clear c52
                by_cases c57 : (Int.tmod a1 2) = 0
                · rw [if_pos c57] at H
                  have c57b0 : ((Int.tmod a1 2) == 0) = true := beq_iff_eq.mpr c57
                  have c57b1 : ((Int.tmod a1 2) != 0) = false := bne_eq_false_iff_eq.mpr c57
                  clear c57
                  by_cases c58 : (Int.tmod a2 2) = 0
                  · rw [if_pos c58] at H
                    have c58b0 : ((Int.tmod a2 2) == 0) = true := beq_iff_eq.mpr c58
                    have c58b1 : ((Int.tmod a2 2) != 0) = false := bne_eq_false_iff_eq.mpr c58
                    clear c58
                    by_cases c59 : a1 > (wrap64 (a0_0 - a3))
                    · rw [if_pos c59] at H
                      have c59b0 : decide ((wrap64 (a0_0 - a3)) < a1) = true := decide_eq_true c59
                      clear c59
                      have H' := Aside0.mk H
                      clear H
                      have hnb60 := NB244_245.out
                      have hnc60 := NB245_244.out
                      have hnb61 := NB244_246.out
                      have hnc61 := NB246_244.out
                      have hcz62_0 : w10.cell? ⟨gb244, 0, none⟩ = some (.int .i64 a0_0) := (blk_cell BK244.out 0).trans rfl
                      have hcz62_1 : w10.cell? ⟨gb244, 1, none⟩ = some (.int .i64 a0_1) := (blk_cell BK244.out 1).trans rfl
                      have hcz62_2 : w10.cell? ⟨gb244, 2, none⟩ = some (.slice A0_2 l0_2.length c0_2) := (blk_cell BK244.out 2).trans rfl
                      have hcz62_3 : w10.cell? ⟨gb244, 3, none⟩ = some (.slice A0_3 l0_3.length c0_3) := (blk_cell BK244.out 3).trans rfl
                      have hcz62_4 : w10.cell? ⟨gb244, 4, none⟩ = some (.slice A0_4 l0_4.length c0_4) := (blk_cell BK244.out 4).trans rfl
                      have hfz62_0 := blk_frozen BK244.out 0
                      have hfz62_1 := blk_frozen BK244.out 1
                      have hfz62_2 := blk_frozen BK244.out 2
                      have hfz62_3 := blk_frozen BK244.out 3
                      have hfz62_4 := blk_frozen BK244.out 4
                      go_wp2_with (first | ((with_reducible refine gate_callee (f := 27) rfl ?_); refine goesL_ (some 15) rfl rfl Try.func27 (by kernel_rfl) rfl #[.agg #[.int .i64 a0_0, .int .i64 a0_1, .slice A0_2 l0_2.length c0_2, .slice A0_3 l0_3.length c0_3, .slice A0_4 l0_4.length c0_4]] rfl (by (try simp only [List.map_toArray, List.map_cons, List.map_nil]); first | done | rfl | (simp only [List.length_drop, List.length_take]; rfl)) ?_; (with_reducible refine (cutroomref07_Formed.calls a0_0 a0_1 _ _ l0_2 _ _ l0_3 _ _ l0_4 true _ ?side1 ?side2 ?side3 ?side4 ?side5 ?side6 A11.out).mono ?_); (case side1 => repeat (first | exact (Kd.C_below HR0_2.out HB.out) | (with_reducible refine Kd.C_alloc ?_ _) | (with_reducible refine Kd.C_drewN ?_ _) | (with_reducible refine Kd.C_drew ?_))); (case side2 => exact HC0_2.out); (case side3 => repeat (first | exact (Kd.C_below HR0_3.out HB.out) | (with_reducible refine Kd.C_alloc ?_ _) | (with_reducible refine Kd.C_drewN ?_ _) | (with_reducible refine Kd.C_drew ?_))); (case side4 => exact HC0_3.out); (case side5 => repeat (first | exact (Kd.C_below HR0_4.out HB.out) | (with_reducible refine Kd.C_alloc ?_ _) | (with_reducible refine Kd.C_drewN ?_ _) | (with_reducible refine Kd.C_drew ?_))); (case side6 => exact HC0_4.out); rintro e w63 ⟨rfl, hb⟩; refine ⟨_, rfl, ?_⟩; have n0_ := Aside0.mk (blk_below (g := gb244) (o := .cells #[.int .i64 a0_0, .int .i64 a0_1, .slice A0_2 l0_2.length c0_2, .slice A0_3 l0_3.length c0_3, .slice A0_4 l0_4.length c0_4] 24 (0, 0)) (by (with_reducible repeat (first | refine blk_drewN ?_ _ | refine blk_drew ?_ | refine blk_alloc ?_ _)); exact BK244.out) hb); have n1_ := Aside0.mk (blk_below (g := gb245) (o := .cells #[.int .i64 a5_0, .int .i64 a5_1] 32 (0, 0)) (by (with_reducible repeat (first | refine blk_drewN ?_ _ | refine blk_drew ?_ | refine blk_alloc ?_ _)); exact BK245.out) hb); have n2_ := Aside0.mk (blk_below (g := gb246) (o := .cells #[.int .i64 0, .int .i64 0, .slice none 0 0, .slice none 0 0, .slice none 0 0] 24 (0, 0)) (by (with_reducible repeat (first | refine blk_drewN ?_ _ | refine blk_drew ?_ | refine blk_alloc ?_ _)); exact BK246.out) hb); have n3_ := Aside0.mk (below_step (by repeat (first | (with_reducible first | exact HB.out | apply below_alloc | apply pw_below_drewN | apply below_drew1 | refine below_set ?_ GE244.out | refine below_set ?_ GE245.out | refine below_set ?_ GE246.out) | exact HB.out)) hb); clear BK244; clear BK245; clear BK246; clear HB; have BK244 := n0_; have BK245 := n1_; have BK246 := n2_; have HB := n3_; clear n0_ n1_ n2_ n3_; (try clear hb); (try clear hb2); (try clear hk); (try clear hi); have hcz64_0 : w63.cell? ⟨gb244, 0, none⟩ = some (.int .i64 a0_0) := (blk_cell BK244.out 0).trans rfl; have hcz64_1 : w63.cell? ⟨gb244, 1, none⟩ = some (.int .i64 a0_1) := (blk_cell BK244.out 1).trans rfl; have hcz64_2 : w63.cell? ⟨gb244, 2, none⟩ = some (.slice A0_2 l0_2.length c0_2) := (blk_cell BK244.out 2).trans rfl; have hcz64_3 : w63.cell? ⟨gb244, 3, none⟩ = some (.slice A0_3 l0_3.length c0_3) := (blk_cell BK244.out 3).trans rfl; have hcz64_4 : w63.cell? ⟨gb244, 4, none⟩ = some (.slice A0_4 l0_4.length c0_4) := (blk_cell BK244.out 4).trans rfl; have hfz64_0 := blk_frozen BK244.out 0; have hfz64_1 := blk_frozen BK244.out 1; have hfz64_2 := blk_frozen BK244.out 2; have hfz64_3 := blk_frozen BK244.out 3; have hfz64_4 := blk_frozen BK244.out 4))
                      go_meet
                      case rel => exact ⟨_, (true), (by first | rfl | (simp; done) | (simp [*]; done)), H', ⟨by first | omega | exact Nat.le_refl _⟩, ⟨by (with_reducible repeat (first | refine blk_drewN ?_ _ | refine blk_drew ?_ | refine blk_alloc ?_ _)); exact BK244.out⟩, ⟨by (with_reducible repeat (first | refine blk_drewN ?_ _ | refine blk_drew ?_ | refine blk_alloc ?_ _)); exact BK245.out⟩, ⟨by (with_reducible repeat (first | refine blk_drewN ?_ _ | refine blk_drew ?_ | refine blk_alloc ?_ _)); exact BK246.out⟩, ⟨by repeat (first | (with_reducible first | exact HB.out | apply below_alloc | apply pw_below_drewN | apply below_drew1 | refine below_set ?_ GE244.out | refine below_set ?_ GE245.out | refine below_set ?_ GE246.out) | exact HB.out)⟩⟩
                    · rw [if_neg c59] at H
                      have c59b0 : decide ((wrap64 (a0_0 - a3)) < a1) = false := decide_eq_false c59
                      clear c59
                      have H' := Aside0.mk H
                      clear H
                      have hnb65 := NB244_245.out
                      have hnc65 := NB245_244.out
                      have hnb66 := NB244_246.out
                      have hnc66 := NB246_244.out
                      have hcz67_0 : w10.cell? ⟨gb244, 0, none⟩ = some (.int .i64 a0_0) := (blk_cell BK244.out 0).trans rfl
                      have hcz67_1 : w10.cell? ⟨gb244, 1, none⟩ = some (.int .i64 a0_1) := (blk_cell BK244.out 1).trans rfl
                      have hcz67_2 : w10.cell? ⟨gb244, 2, none⟩ = some (.slice A0_2 l0_2.length c0_2) := (blk_cell BK244.out 2).trans rfl
                      have hcz67_3 : w10.cell? ⟨gb244, 3, none⟩ = some (.slice A0_3 l0_3.length c0_3) := (blk_cell BK244.out 3).trans rfl
                      have hcz67_4 : w10.cell? ⟨gb244, 4, none⟩ = some (.slice A0_4 l0_4.length c0_4) := (blk_cell BK244.out 4).trans rfl
                      have hfz67_0 := blk_frozen BK244.out 0
                      have hfz67_1 := blk_frozen BK244.out 1
                      have hfz67_2 := blk_frozen BK244.out 2
                      have hfz67_3 := blk_frozen BK244.out 3
                      have hfz67_4 := blk_frozen BK244.out 4
                      go_wp2_with (first | ((with_reducible refine gate_callee (f := 27) rfl ?_); refine goesL_ (some 15) rfl rfl Try.func27 (by kernel_rfl) rfl #[.agg #[.int .i64 a0_0, .int .i64 a0_1, .slice A0_2 l0_2.length c0_2, .slice A0_3 l0_3.length c0_3, .slice A0_4 l0_4.length c0_4]] rfl (by (try simp only [List.map_toArray, List.map_cons, List.map_nil]); first | done | rfl | (simp only [List.length_drop, List.length_take]; rfl)) ?_; (with_reducible refine (cutroomref07_Formed.calls a0_0 a0_1 _ _ l0_2 _ _ l0_3 _ _ l0_4 true _ ?side1 ?side2 ?side3 ?side4 ?side5 ?side6 A11.out).mono ?_); (case side1 => repeat (first | exact (Kd.C_below HR0_2.out HB.out) | (with_reducible refine Kd.C_alloc ?_ _) | (with_reducible refine Kd.C_drewN ?_ _) | (with_reducible refine Kd.C_drew ?_))); (case side2 => exact HC0_2.out); (case side3 => repeat (first | exact (Kd.C_below HR0_3.out HB.out) | (with_reducible refine Kd.C_alloc ?_ _) | (with_reducible refine Kd.C_drewN ?_ _) | (with_reducible refine Kd.C_drew ?_))); (case side4 => exact HC0_3.out); (case side5 => repeat (first | exact (Kd.C_below HR0_4.out HB.out) | (with_reducible refine Kd.C_alloc ?_ _) | (with_reducible refine Kd.C_drewN ?_ _) | (with_reducible refine Kd.C_drew ?_))); (case side6 => exact HC0_4.out); rintro e w68 ⟨rfl, hb⟩; refine ⟨_, rfl, ?_⟩; have n0_ := Aside0.mk (blk_below (g := gb244) (o := .cells #[.int .i64 a0_0, .int .i64 a0_1, .slice A0_2 l0_2.length c0_2, .slice A0_3 l0_3.length c0_3, .slice A0_4 l0_4.length c0_4] 24 (0, 0)) (by (with_reducible repeat (first | refine blk_drewN ?_ _ | refine blk_drew ?_ | refine blk_alloc ?_ _)); exact BK244.out) hb); have n1_ := Aside0.mk (blk_below (g := gb245) (o := .cells #[.int .i64 a5_0, .int .i64 a5_1] 32 (0, 0)) (by (with_reducible repeat (first | refine blk_drewN ?_ _ | refine blk_drew ?_ | refine blk_alloc ?_ _)); exact BK245.out) hb); have n2_ := Aside0.mk (blk_below (g := gb246) (o := .cells #[.int .i64 0, .int .i64 0, .slice none 0 0, .slice none 0 0, .slice none 0 0] 24 (0, 0)) (by (with_reducible repeat (first | refine blk_drewN ?_ _ | refine blk_drew ?_ | refine blk_alloc ?_ _)); exact BK246.out) hb); have n3_ := Aside0.mk (below_step (by repeat (first | (with_reducible first | exact HB.out | apply below_alloc | apply pw_below_drewN | apply below_drew1 | refine below_set ?_ GE244.out | refine below_set ?_ GE245.out | refine below_set ?_ GE246.out) | exact HB.out)) hb); clear BK244; clear BK245; clear BK246; clear HB; have BK244 := n0_; have BK245 := n1_; have BK246 := n2_; have HB := n3_; clear n0_ n1_ n2_ n3_; (try clear hb); (try clear hb2); (try clear hk); (try clear hi); have hcz69_0 : w68.cell? ⟨gb244, 0, none⟩ = some (.int .i64 a0_0) := (blk_cell BK244.out 0).trans rfl; have hcz69_1 : w68.cell? ⟨gb244, 1, none⟩ = some (.int .i64 a0_1) := (blk_cell BK244.out 1).trans rfl; have hcz69_2 : w68.cell? ⟨gb244, 2, none⟩ = some (.slice A0_2 l0_2.length c0_2) := (blk_cell BK244.out 2).trans rfl; have hcz69_3 : w68.cell? ⟨gb244, 3, none⟩ = some (.slice A0_3 l0_3.length c0_3) := (blk_cell BK244.out 3).trans rfl; have hcz69_4 : w68.cell? ⟨gb244, 4, none⟩ = some (.slice A0_4 l0_4.length c0_4) := (blk_cell BK244.out 4).trans rfl; have hfz69_0 := blk_frozen BK244.out 0; have hfz69_1 := blk_frozen BK244.out 1; have hfz69_2 := blk_frozen BK244.out 2; have hfz69_3 := blk_frozen BK244.out 3; have hfz69_4 := blk_frozen BK244.out 4))
                      go_meet
                      case rel => exact ⟨_, (decide (a2 > (wrap64 (a0_1 - a4)))), (by first | rfl | (simp; done) | (simp [*]; done)), H', ⟨by first | omega | exact Nat.le_refl _⟩, ⟨by (with_reducible repeat (first | refine blk_drewN ?_ _ | refine blk_drew ?_ | refine blk_alloc ?_ _)); exact BK244.out⟩, ⟨by (with_reducible repeat (first | refine blk_drewN ?_ _ | refine blk_drew ?_ | refine blk_alloc ?_ _)); exact BK245.out⟩, ⟨by (with_reducible repeat (first | refine blk_drewN ?_ _ | refine blk_drew ?_ | refine blk_alloc ?_ _)); exact BK246.out⟩, ⟨by repeat (first | (with_reducible first | exact HB.out | apply below_alloc | apply pw_below_drewN | apply below_drew1 | refine below_set ?_ GE244.out | refine below_set ?_ GE245.out | refine below_set ?_ GE246.out) | exact HB.out)⟩⟩
                  · rw [if_neg c58] at H
                    have c58b0 : ((Int.tmod a2 2) == 0) = false := beq_eq_false_iff_ne.mpr c58
                    have c58b1 : ((Int.tmod a2 2) != 0) = true := bne_iff_ne.mpr c58
                    have H' := Aside0.mk H
                    clear H
                    have hnb70 := NB244_245.out
                    have hnc70 := NB245_244.out
                    have hnb71 := NB244_246.out
                    have hnc71 := NB246_244.out
                    have hcz72_0 : w10.cell? ⟨gb244, 0, none⟩ = some (.int .i64 a0_0) := (blk_cell BK244.out 0).trans rfl
                    have hcz72_1 : w10.cell? ⟨gb244, 1, none⟩ = some (.int .i64 a0_1) := (blk_cell BK244.out 1).trans rfl
                    have hcz72_2 : w10.cell? ⟨gb244, 2, none⟩ = some (.slice A0_2 l0_2.length c0_2) := (blk_cell BK244.out 2).trans rfl
                    have hcz72_3 : w10.cell? ⟨gb244, 3, none⟩ = some (.slice A0_3 l0_3.length c0_3) := (blk_cell BK244.out 3).trans rfl
                    have hcz72_4 : w10.cell? ⟨gb244, 4, none⟩ = some (.slice A0_4 l0_4.length c0_4) := (blk_cell BK244.out 4).trans rfl
                    have hfz72_0 := blk_frozen BK244.out 0
                    have hfz72_1 := blk_frozen BK244.out 1
                    have hfz72_2 := blk_frozen BK244.out 2
                    have hfz72_3 := blk_frozen BK244.out 3
                    have hfz72_4 := blk_frozen BK244.out 4
                    go_wp2_with (first | ((with_reducible refine gate_callee (f := 27) rfl ?_); refine goesL_ (some 15) rfl rfl Try.func27 (by kernel_rfl) rfl #[.agg #[.int .i64 a0_0, .int .i64 a0_1, .slice A0_2 l0_2.length c0_2, .slice A0_3 l0_3.length c0_3, .slice A0_4 l0_4.length c0_4]] rfl (by (try simp only [List.map_toArray, List.map_cons, List.map_nil]); first | done | rfl | (simp only [List.length_drop, List.length_take]; rfl)) ?_; (with_reducible refine (cutroomref07_Formed.calls a0_0 a0_1 _ _ l0_2 _ _ l0_3 _ _ l0_4 true _ ?side1 ?side2 ?side3 ?side4 ?side5 ?side6 A11.out).mono ?_); (case side1 => repeat (first | exact (Kd.C_below HR0_2.out HB.out) | (with_reducible refine Kd.C_alloc ?_ _) | (with_reducible refine Kd.C_drewN ?_ _) | (with_reducible refine Kd.C_drew ?_))); (case side2 => exact HC0_2.out); (case side3 => repeat (first | exact (Kd.C_below HR0_3.out HB.out) | (with_reducible refine Kd.C_alloc ?_ _) | (with_reducible refine Kd.C_drewN ?_ _) | (with_reducible refine Kd.C_drew ?_))); (case side4 => exact HC0_3.out); (case side5 => repeat (first | exact (Kd.C_below HR0_4.out HB.out) | (with_reducible refine Kd.C_alloc ?_ _) | (with_reducible refine Kd.C_drewN ?_ _) | (with_reducible refine Kd.C_drew ?_))); (case side6 => exact HC0_4.out); rintro e w73 ⟨rfl, hb⟩; refine ⟨_, rfl, ?_⟩; have n0_ := Aside0.mk (blk_below (g := gb244) (o := .cells #[.int .i64 a0_0, .int .i64 a0_1, .slice A0_2 l0_2.length c0_2, .slice A0_3 l0_3.length c0_3, .slice A0_4 l0_4.length c0_4] 24 (0, 0)) (by (with_reducible repeat (first | refine blk_drewN ?_ _ | refine blk_drew ?_ | refine blk_alloc ?_ _)); exact BK244.out) hb); have n1_ := Aside0.mk (blk_below (g := gb245) (o := .cells #[.int .i64 a5_0, .int .i64 a5_1] 32 (0, 0)) (by (with_reducible repeat (first | refine blk_drewN ?_ _ | refine blk_drew ?_ | refine blk_alloc ?_ _)); exact BK245.out) hb); have n2_ := Aside0.mk (blk_below (g := gb246) (o := .cells #[.int .i64 0, .int .i64 0, .slice none 0 0, .slice none 0 0, .slice none 0 0] 24 (0, 0)) (by (with_reducible repeat (first | refine blk_drewN ?_ _ | refine blk_drew ?_ | refine blk_alloc ?_ _)); exact BK246.out) hb); have n3_ := Aside0.mk (below_step (by repeat (first | (with_reducible first | exact HB.out | apply below_alloc | apply pw_below_drewN | apply below_drew1 | refine below_set ?_ GE244.out | refine below_set ?_ GE245.out | refine below_set ?_ GE246.out) | exact HB.out)) hb); clear BK244; clear BK245; clear BK246; clear HB; have BK244 := n0_; have BK245 := n1_; have BK246 := n2_; have HB := n3_; clear n0_ n1_ n2_ n3_; (try clear hb); (try clear hb2); (try clear hk); (try clear hi)))
                    go_meet
                    case rel => exact ⟨_, (true), (by first | rfl | (simp; done) | (simp [*]; done)), H', ⟨by first | omega | exact Nat.le_refl _⟩, ⟨by (with_reducible repeat (first | refine blk_drewN ?_ _ | refine blk_drew ?_ | refine blk_alloc ?_ _)); exact BK244.out⟩, ⟨by (with_reducible repeat (first | refine blk_drewN ?_ _ | refine blk_drew ?_ | refine blk_alloc ?_ _)); exact BK245.out⟩, ⟨by (with_reducible repeat (first | refine blk_drewN ?_ _ | refine blk_drew ?_ | refine blk_alloc ?_ _)); exact BK246.out⟩, ⟨by repeat (first | (with_reducible first | exact HB.out | apply below_alloc | apply pw_below_drewN | apply below_drew1 | refine below_set ?_ GE244.out | refine below_set ?_ GE245.out | refine below_set ?_ GE246.out) | exact HB.out)⟩⟩
                · rw [if_neg c57] at H
                  have c57b0 : ((Int.tmod a1 2) == 0) = false := beq_eq_false_iff_ne.mpr c57
                  have c57b1 : ((Int.tmod a1 2) != 0) = true := bne_iff_ne.mpr c57
                  have H' := Aside0.mk H
                  clear H
                  have hnb74 := NB244_245.out
                  have hnc74 := NB245_244.out
                  have hnb75 := NB244_246.out
                  have hnc75 := NB246_244.out
                  have hcz76_0 : w10.cell? ⟨gb244, 0, none⟩ = some (.int .i64 a0_0) := (blk_cell BK244.out 0).trans rfl
                  have hcz76_1 : w10.cell? ⟨gb244, 1, none⟩ = some (.int .i64 a0_1) := (blk_cell BK244.out 1).trans rfl
                  have hcz76_2 : w10.cell? ⟨gb244, 2, none⟩ = some (.slice A0_2 l0_2.length c0_2) := (blk_cell BK244.out 2).trans rfl
                  have hcz76_3 : w10.cell? ⟨gb244, 3, none⟩ = some (.slice A0_3 l0_3.length c0_3) := (blk_cell BK244.out 3).trans rfl
                  have hcz76_4 : w10.cell? ⟨gb244, 4, none⟩ = some (.slice A0_4 l0_4.length c0_4) := (blk_cell BK244.out 4).trans rfl
                  have hfz76_0 := blk_frozen BK244.out 0
                  have hfz76_1 := blk_frozen BK244.out 1
                  have hfz76_2 := blk_frozen BK244.out 2
                  have hfz76_3 := blk_frozen BK244.out 3
                  have hfz76_4 := blk_frozen BK244.out 4
                  go_wp2_with (first | ((with_reducible refine gate_callee (f := 27) rfl ?_); refine goesL_ (some 15) rfl rfl Try.func27 (by kernel_rfl) rfl #[.agg #[.int .i64 a0_0, .int .i64 a0_1, .slice A0_2 l0_2.length c0_2, .slice A0_3 l0_3.length c0_3, .slice A0_4 l0_4.length c0_4]] rfl (by (try simp only [List.map_toArray, List.map_cons, List.map_nil]); first | done | rfl | (simp only [List.length_drop, List.length_take]; rfl)) ?_; (with_reducible refine (cutroomref07_Formed.calls a0_0 a0_1 _ _ l0_2 _ _ l0_3 _ _ l0_4 true _ ?side1 ?side2 ?side3 ?side4 ?side5 ?side6 A11.out).mono ?_); (case side1 => repeat (first | exact (Kd.C_below HR0_2.out HB.out) | (with_reducible refine Kd.C_alloc ?_ _) | (with_reducible refine Kd.C_drewN ?_ _) | (with_reducible refine Kd.C_drew ?_))); (case side2 => exact HC0_2.out); (case side3 => repeat (first | exact (Kd.C_below HR0_3.out HB.out) | (with_reducible refine Kd.C_alloc ?_ _) | (with_reducible refine Kd.C_drewN ?_ _) | (with_reducible refine Kd.C_drew ?_))); (case side4 => exact HC0_3.out); (case side5 => repeat (first | exact (Kd.C_below HR0_4.out HB.out) | (with_reducible refine Kd.C_alloc ?_ _) | (with_reducible refine Kd.C_drewN ?_ _) | (with_reducible refine Kd.C_drew ?_))); (case side6 => exact HC0_4.out); rintro e w77 ⟨rfl, hb⟩; refine ⟨_, rfl, ?_⟩; have n0_ := Aside0.mk (blk_below (g := gb244) (o := .cells #[.int .i64 a0_0, .int .i64 a0_1, .slice A0_2 l0_2.length c0_2, .slice A0_3 l0_3.length c0_3, .slice A0_4 l0_4.length c0_4] 24 (0, 0)) (by (with_reducible repeat (first | refine blk_drewN ?_ _ | refine blk_drew ?_ | refine blk_alloc ?_ _)); exact BK244.out) hb); have n1_ := Aside0.mk (blk_below (g := gb245) (o := .cells #[.int .i64 a5_0, .int .i64 a5_1] 32 (0, 0)) (by (with_reducible repeat (first | refine blk_drewN ?_ _ | refine blk_drew ?_ | refine blk_alloc ?_ _)); exact BK245.out) hb); have n2_ := Aside0.mk (blk_below (g := gb246) (o := .cells #[.int .i64 0, .int .i64 0, .slice none 0 0, .slice none 0 0, .slice none 0 0] 24 (0, 0)) (by (with_reducible repeat (first | refine blk_drewN ?_ _ | refine blk_drew ?_ | refine blk_alloc ?_ _)); exact BK246.out) hb); have n3_ := Aside0.mk (below_step (by repeat (first | (with_reducible first | exact HB.out | apply below_alloc | apply pw_below_drewN | apply below_drew1 | refine below_set ?_ GE244.out | refine below_set ?_ GE245.out | refine below_set ?_ GE246.out) | exact HB.out)) hb); clear BK244; clear BK245; clear BK246; clear HB; have BK244 := n0_; have BK245 := n1_; have BK246 := n2_; have HB := n3_; clear n0_ n1_ n2_ n3_; (try clear hb); (try clear hb2); (try clear hk); (try clear hi)))
                  go_meet
                  case rel => exact ⟨_, (true), (by first | rfl | (simp; done) | (simp [*]; done)), H', ⟨by first | omega | exact Nat.le_refl _⟩, ⟨by (with_reducible repeat (first | refine blk_drewN ?_ _ | refine blk_drew ?_ | refine blk_alloc ?_ _)); exact BK244.out⟩, ⟨by (with_reducible repeat (first | refine blk_drewN ?_ _ | refine blk_drew ?_ | refine blk_alloc ?_ _)); exact BK245.out⟩, ⟨by (with_reducible repeat (first | refine blk_drewN ?_ _ | refine blk_drew ?_ | refine blk_alloc ?_ _)); exact BK246.out⟩, ⟨by repeat (first | (with_reducible first | exact HB.out | apply below_alloc | apply pw_below_drewN | apply below_drew1 | refine below_set ?_ GE244.out | refine below_set ?_ GE245.out | refine below_set ?_ GE246.out) | exact HB.out)⟩⟩
          · rw [if_neg c46] at H
            have c46b0 : (a4 == 16) = false := beq_eq_false_iff_ne.mpr c46
            have c46b1 : (a4 != 16) = true := bne_iff_ne.mpr c46
            have H' := Aside0.mk H
            clear H
            have hnb78 := NB244_245.out
            have hnc78 := NB245_244.out
            have hnb79 := NB244_246.out
            have hnc79 := NB246_244.out
            have hcz80_0 : w10.cell? ⟨gb244, 0, none⟩ = some (.int .i64 a0_0) := (blk_cell BK244.out 0).trans rfl
            have hcz80_1 : w10.cell? ⟨gb244, 1, none⟩ = some (.int .i64 a0_1) := (blk_cell BK244.out 1).trans rfl
            have hcz80_2 : w10.cell? ⟨gb244, 2, none⟩ = some (.slice A0_2 l0_2.length c0_2) := (blk_cell BK244.out 2).trans rfl
            have hcz80_3 : w10.cell? ⟨gb244, 3, none⟩ = some (.slice A0_3 l0_3.length c0_3) := (blk_cell BK244.out 3).trans rfl
            have hcz80_4 : w10.cell? ⟨gb244, 4, none⟩ = some (.slice A0_4 l0_4.length c0_4) := (blk_cell BK244.out 4).trans rfl
            have hfz80_0 := blk_frozen BK244.out 0
            have hfz80_1 := blk_frozen BK244.out 1
            have hfz80_2 := blk_frozen BK244.out 2
            have hfz80_3 := blk_frozen BK244.out 3
            have hfz80_4 := blk_frozen BK244.out 4
            go_wp2_with (first | ((with_reducible refine gate_callee (f := 27) rfl ?_); refine goesL_ (some 15) rfl rfl Try.func27 (by kernel_rfl) rfl #[.agg #[.int .i64 a0_0, .int .i64 a0_1, .slice A0_2 l0_2.length c0_2, .slice A0_3 l0_3.length c0_3, .slice A0_4 l0_4.length c0_4]] rfl (by (try simp only [List.map_toArray, List.map_cons, List.map_nil]); first | done | rfl | (simp only [List.length_drop, List.length_take]; rfl)) ?_; (with_reducible refine (cutroomref07_Formed.calls a0_0 a0_1 _ _ l0_2 _ _ l0_3 _ _ l0_4 true _ ?side1 ?side2 ?side3 ?side4 ?side5 ?side6 A11.out).mono ?_); (case side1 => repeat (first | exact (Kd.C_below HR0_2.out HB.out) | (with_reducible refine Kd.C_alloc ?_ _) | (with_reducible refine Kd.C_drewN ?_ _) | (with_reducible refine Kd.C_drew ?_))); (case side2 => exact HC0_2.out); (case side3 => repeat (first | exact (Kd.C_below HR0_3.out HB.out) | (with_reducible refine Kd.C_alloc ?_ _) | (with_reducible refine Kd.C_drewN ?_ _) | (with_reducible refine Kd.C_drew ?_))); (case side4 => exact HC0_3.out); (case side5 => repeat (first | exact (Kd.C_below HR0_4.out HB.out) | (with_reducible refine Kd.C_alloc ?_ _) | (with_reducible refine Kd.C_drewN ?_ _) | (with_reducible refine Kd.C_drew ?_))); (case side6 => exact HC0_4.out); rintro e w81 ⟨rfl, hb⟩; refine ⟨_, rfl, ?_⟩; have n0_ := Aside0.mk (blk_below (g := gb244) (o := .cells #[.int .i64 a0_0, .int .i64 a0_1, .slice A0_2 l0_2.length c0_2, .slice A0_3 l0_3.length c0_3, .slice A0_4 l0_4.length c0_4] 24 (0, 0)) (by (with_reducible repeat (first | refine blk_drewN ?_ _ | refine blk_drew ?_ | refine blk_alloc ?_ _)); exact BK244.out) hb); have n1_ := Aside0.mk (blk_below (g := gb245) (o := .cells #[.int .i64 a5_0, .int .i64 a5_1] 32 (0, 0)) (by (with_reducible repeat (first | refine blk_drewN ?_ _ | refine blk_drew ?_ | refine blk_alloc ?_ _)); exact BK245.out) hb); have n2_ := Aside0.mk (blk_below (g := gb246) (o := .cells #[.int .i64 0, .int .i64 0, .slice none 0 0, .slice none 0 0, .slice none 0 0] 24 (0, 0)) (by (with_reducible repeat (first | refine blk_drewN ?_ _ | refine blk_drew ?_ | refine blk_alloc ?_ _)); exact BK246.out) hb); have n3_ := Aside0.mk (below_step (by repeat (first | (with_reducible first | exact HB.out | apply below_alloc | apply pw_below_drewN | apply below_drew1 | refine below_set ?_ GE244.out | refine below_set ?_ GE245.out | refine below_set ?_ GE246.out) | exact HB.out)) hb); clear BK244; clear BK245; clear BK246; clear HB; have BK244 := n0_; have BK245 := n1_; have BK246 := n2_; have HB := n3_; clear n0_ n1_ n2_ n3_; (try clear hb); (try clear hb2); (try clear hk); (try clear hi)))
            go_meet
            case rel => exact ⟨_, (true), (by first | rfl | (simp; done) | (simp [*]; done)), H', ⟨by first | omega | exact Nat.le_refl _⟩, ⟨by (with_reducible repeat (first | refine blk_drewN ?_ _ | refine blk_drew ?_ | refine blk_alloc ?_ _)); exact BK244.out⟩, ⟨by (with_reducible repeat (first | refine blk_drewN ?_ _ | refine blk_drew ?_ | refine blk_alloc ?_ _)); exact BK245.out⟩, ⟨by (with_reducible repeat (first | refine blk_drewN ?_ _ | refine blk_drew ?_ | refine blk_alloc ?_ _)); exact BK246.out⟩, ⟨by repeat (first | (with_reducible first | exact HB.out | apply below_alloc | apply pw_below_drewN | apply below_drew1 | refine below_set ?_ GE244.out | refine below_set ?_ GE245.out | refine below_set ?_ GE246.out) | exact HB.out)⟩⟩
      · rw [if_neg c13] at H
        have c13b0 : (a3 == 16) = false := beq_eq_false_iff_ne.mpr c13
        have c13b1 : (a3 != 16) = true := bne_iff_ne.mpr c13
        (first | rw [c13b0] | (simp only [i64_w, i32_w]; rw [c13b0]) | skip)
        have H' := Aside0.mk H
        clear H
        have hnb82 := NB244_245.out
        have hnc82 := NB245_244.out
        have hnb83 := NB244_246.out
        have hnc83 := NB246_244.out
        have hcz84_0 : w10.cell? ⟨gb244, 0, none⟩ = some (.int .i64 a0_0) := (blk_cell BK244.out 0).trans rfl
        have hcz84_1 : w10.cell? ⟨gb244, 1, none⟩ = some (.int .i64 a0_1) := (blk_cell BK244.out 1).trans rfl
        have hcz84_2 : w10.cell? ⟨gb244, 2, none⟩ = some (.slice A0_2 l0_2.length c0_2) := (blk_cell BK244.out 2).trans rfl
        have hcz84_3 : w10.cell? ⟨gb244, 3, none⟩ = some (.slice A0_3 l0_3.length c0_3) := (blk_cell BK244.out 3).trans rfl
        have hcz84_4 : w10.cell? ⟨gb244, 4, none⟩ = some (.slice A0_4 l0_4.length c0_4) := (blk_cell BK244.out 4).trans rfl
        have hfz84_0 := blk_frozen BK244.out 0
        have hfz84_1 := blk_frozen BK244.out 1
        have hfz84_2 := blk_frozen BK244.out 2
        have hfz84_3 := blk_frozen BK244.out 3
        have hfz84_4 := blk_frozen BK244.out 4
        go_wp2_with (first | ((with_reducible refine gate_callee (f := 27) rfl ?_); refine goesL_ (some 15) rfl rfl Try.func27 (by kernel_rfl) rfl #[.agg #[.int .i64 a0_0, .int .i64 a0_1, .slice A0_2 l0_2.length c0_2, .slice A0_3 l0_3.length c0_3, .slice A0_4 l0_4.length c0_4]] rfl (by (try simp only [List.map_toArray, List.map_cons, List.map_nil]); first | done | rfl | (simp only [List.length_drop, List.length_take]; rfl)) ?_; (with_reducible refine (cutroomref07_Formed.calls a0_0 a0_1 _ _ l0_2 _ _ l0_3 _ _ l0_4 true _ ?side1 ?side2 ?side3 ?side4 ?side5 ?side6 A11.out).mono ?_); (case side1 => repeat (first | exact (Kd.C_below HR0_2.out HB.out) | (with_reducible refine Kd.C_alloc ?_ _) | (with_reducible refine Kd.C_drewN ?_ _) | (with_reducible refine Kd.C_drew ?_))); (case side2 => exact HC0_2.out); (case side3 => repeat (first | exact (Kd.C_below HR0_3.out HB.out) | (with_reducible refine Kd.C_alloc ?_ _) | (with_reducible refine Kd.C_drewN ?_ _) | (with_reducible refine Kd.C_drew ?_))); (case side4 => exact HC0_3.out); (case side5 => repeat (first | exact (Kd.C_below HR0_4.out HB.out) | (with_reducible refine Kd.C_alloc ?_ _) | (with_reducible refine Kd.C_drewN ?_ _) | (with_reducible refine Kd.C_drew ?_))); (case side6 => exact HC0_4.out); rintro e w85 ⟨rfl, hb⟩; refine ⟨_, rfl, ?_⟩; have n0_ := Aside0.mk (blk_below (g := gb244) (o := .cells #[.int .i64 a0_0, .int .i64 a0_1, .slice A0_2 l0_2.length c0_2, .slice A0_3 l0_3.length c0_3, .slice A0_4 l0_4.length c0_4] 24 (0, 0)) (by (with_reducible repeat (first | refine blk_drewN ?_ _ | refine blk_drew ?_ | refine blk_alloc ?_ _)); exact BK244.out) hb); have n1_ := Aside0.mk (blk_below (g := gb245) (o := .cells #[.int .i64 a5_0, .int .i64 a5_1] 32 (0, 0)) (by (with_reducible repeat (first | refine blk_drewN ?_ _ | refine blk_drew ?_ | refine blk_alloc ?_ _)); exact BK245.out) hb); have n2_ := Aside0.mk (blk_below (g := gb246) (o := .cells #[.int .i64 0, .int .i64 0, .slice none 0 0, .slice none 0 0, .slice none 0 0] 24 (0, 0)) (by (with_reducible repeat (first | refine blk_drewN ?_ _ | refine blk_drew ?_ | refine blk_alloc ?_ _)); exact BK246.out) hb); have n3_ := Aside0.mk (below_step (by repeat (first | (with_reducible first | exact HB.out | apply below_alloc | apply pw_below_drewN | apply below_drew1 | refine below_set ?_ GE244.out | refine below_set ?_ GE245.out | refine below_set ?_ GE246.out) | exact HB.out)) hb); clear BK244; clear BK245; clear BK246; clear HB; have BK244 := n0_; have BK245 := n1_; have BK246 := n2_; have HB := n3_; clear n0_ n1_ n2_ n3_; (try clear hb); (try clear hb2); (try clear hk); (try clear hi)))
        go_meet
        case rel => exact ⟨_, (true), (by first | rfl | (simp; done) | (simp [*]; done)), H', ⟨by first | omega | exact Nat.le_refl _⟩, ⟨by (with_reducible repeat (first | refine blk_drewN ?_ _ | refine blk_drew ?_ | refine blk_alloc ?_ _)); exact BK244.out⟩, ⟨by (with_reducible repeat (first | refine blk_drewN ?_ _ | refine blk_drew ?_ | refine blk_alloc ?_ _)); exact BK245.out⟩, ⟨by (with_reducible repeat (first | refine blk_drewN ?_ _ | refine blk_drew ?_ | refine blk_alloc ?_ _)); exact BK246.out⟩, ⟨by repeat (first | (with_reducible first | exact HB.out | apply below_alloc | apply pw_below_drewN | apply below_drew1 | refine below_set ?_ GE244.out | refine below_set ?_ GE245.out | refine below_set ?_ GE246.out) | exact HB.out)⟩⟩
    · replace c12 := Bool.eq_false_iff.mpr c12
      subst c12
      have H1 : (cutroomref08_Predict.j0 k a1 a2 a3 a4 true a0_0 a0_1 l0_2 l0_3 l0_4 a5_0 a5_1) = some (r1, r2, r3, r4, r5, r6) := by rw [if_neg (show ¬ (false = true) by decide)] at H; exact H
      clear H
      have H := H1
      clear H1
      have H' := Aside0.mk H
      clear H
      have hnb86 := NB244_245.out
      have hnc86 := NB245_244.out
      have hnb87 := NB244_246.out
      have hnc87 := NB246_244.out
      have hcz88_0 : w10.cell? ⟨gb244, 0, none⟩ = some (.int .i64 a0_0) := (blk_cell BK244.out 0).trans rfl
      have hcz88_1 : w10.cell? ⟨gb244, 1, none⟩ = some (.int .i64 a0_1) := (blk_cell BK244.out 1).trans rfl
      have hcz88_2 : w10.cell? ⟨gb244, 2, none⟩ = some (.slice A0_2 l0_2.length c0_2) := (blk_cell BK244.out 2).trans rfl
      have hcz88_3 : w10.cell? ⟨gb244, 3, none⟩ = some (.slice A0_3 l0_3.length c0_3) := (blk_cell BK244.out 3).trans rfl
      have hcz88_4 : w10.cell? ⟨gb244, 4, none⟩ = some (.slice A0_4 l0_4.length c0_4) := (blk_cell BK244.out 4).trans rfl
      have hfz88_0 := blk_frozen BK244.out 0
      have hfz88_1 := blk_frozen BK244.out 1
      have hfz88_2 := blk_frozen BK244.out 2
      have hfz88_3 := blk_frozen BK244.out 3
      have hfz88_4 := blk_frozen BK244.out 4
      go_wp2_with (first | ((with_reducible refine gate_callee (f := 27) rfl ?_); refine goesL_ (some 15) rfl rfl Try.func27 (by kernel_rfl) rfl #[.agg #[.int .i64 a0_0, .int .i64 a0_1, .slice A0_2 l0_2.length c0_2, .slice A0_3 l0_3.length c0_3, .slice A0_4 l0_4.length c0_4]] rfl (by (try simp only [List.map_toArray, List.map_cons, List.map_nil]); first | done | rfl | (simp only [List.length_drop, List.length_take]; rfl)) ?_; (with_reducible refine (cutroomref07_Formed.calls a0_0 a0_1 _ _ l0_2 _ _ l0_3 _ _ l0_4 false _ ?side1 ?side2 ?side3 ?side4 ?side5 ?side6 A11.out).mono ?_); (case side1 => repeat (first | exact (Kd.C_below HR0_2.out HB.out) | (with_reducible refine Kd.C_alloc ?_ _) | (with_reducible refine Kd.C_drewN ?_ _) | (with_reducible refine Kd.C_drew ?_))); (case side2 => exact HC0_2.out); (case side3 => repeat (first | exact (Kd.C_below HR0_3.out HB.out) | (with_reducible refine Kd.C_alloc ?_ _) | (with_reducible refine Kd.C_drewN ?_ _) | (with_reducible refine Kd.C_drew ?_))); (case side4 => exact HC0_3.out); (case side5 => repeat (first | exact (Kd.C_below HR0_4.out HB.out) | (with_reducible refine Kd.C_alloc ?_ _) | (with_reducible refine Kd.C_drewN ?_ _) | (with_reducible refine Kd.C_drew ?_))); (case side6 => exact HC0_4.out); rintro e w89 ⟨rfl, hb⟩; refine ⟨_, rfl, ?_⟩; have n0_ := Aside0.mk (blk_below (g := gb244) (o := .cells #[.int .i64 a0_0, .int .i64 a0_1, .slice A0_2 l0_2.length c0_2, .slice A0_3 l0_3.length c0_3, .slice A0_4 l0_4.length c0_4] 24 (0, 0)) (by (with_reducible repeat (first | refine blk_drewN ?_ _ | refine blk_drew ?_ | refine blk_alloc ?_ _)); exact BK244.out) hb); have n1_ := Aside0.mk (blk_below (g := gb245) (o := .cells #[.int .i64 a5_0, .int .i64 a5_1] 32 (0, 0)) (by (with_reducible repeat (first | refine blk_drewN ?_ _ | refine blk_drew ?_ | refine blk_alloc ?_ _)); exact BK245.out) hb); have n2_ := Aside0.mk (blk_below (g := gb246) (o := .cells #[.int .i64 0, .int .i64 0, .slice none 0 0, .slice none 0 0, .slice none 0 0] 24 (0, 0)) (by (with_reducible repeat (first | refine blk_drewN ?_ _ | refine blk_drew ?_ | refine blk_alloc ?_ _)); exact BK246.out) hb); have n3_ := Aside0.mk (below_step (by repeat (first | (with_reducible first | exact HB.out | apply below_alloc | apply pw_below_drewN | apply below_drew1 | refine below_set ?_ GE244.out | refine below_set ?_ GE245.out | refine below_set ?_ GE246.out) | exact HB.out)) hb); clear BK244; clear BK245; clear BK246; clear HB; have BK244 := n0_; have BK245 := n1_; have BK246 := n2_; have HB := n3_; clear n0_ n1_ n2_ n3_; (try clear hb); (try clear hb2); (try clear hk); (try clear hi)))
      go_meet
      case rel => exact ⟨_, (true), (by first | rfl | (simp; done) | (simp [*]; done)), H', ⟨by first | omega | exact Nat.le_refl _⟩, ⟨by (with_reducible repeat (first | refine blk_drewN ?_ _ | refine blk_drew ?_ | refine blk_alloc ?_ _)); exact BK244.out⟩, ⟨by (with_reducible repeat (first | refine blk_drewN ?_ _ | refine blk_drew ?_ | refine blk_alloc ?_ _)); exact BK245.out⟩, ⟨by (with_reducible repeat (first | refine blk_drewN ?_ _ | refine blk_drew ?_ | refine blk_alloc ?_ _)); exact BK246.out⟩, ⟨by repeat (first | (with_reducible first | exact HB.out | apply below_alloc | apply pw_below_drewN | apply below_drew1 | refine below_set ?_ GE244.out | refine below_set ?_ GE245.out | refine below_set ?_ GE246.out) | exact HB.out)⟩⟩
  case rest =>
    clear HC7
    try clear c1
    try clear c2
    try clear p2
    try clear c3
    try clear c4
    try clear c5
    try clear c6
    try clear p6
    try clear c7
    try clear c8
    try clear c12
    try clear c13
    try clear c13b0
    try clear c13b1
    try clear c14
    try clear c14b0
    try clear c14b1
    try clear c15
    try clear c15b0
    try clear c16
    try clear c17
    try clear c20
    try clear c20b0
    try clear c21
    try clear c22
    try clear c25
    try clear c25b0
    try clear c25b1
    try clear c26
    try clear c26b0
    try clear c26b1
    try clear c27
    try clear c27b0
    try clear c28
    try clear c29
    try clear c33
    try clear c34
    try clear c38
    try clear c39
    try clear c42
    try clear c43
    try clear c46
    try clear c46b0
    try clear c46b1
    try clear c47
    try clear c47b0
    try clear c48
    try clear c49
    try clear c52
    try clear c52b0
    try clear c53
    try clear c54
    try clear c57
    try clear c57b0
    try clear c57b1
    try clear c58
    try clear c58b0
    try clear c58b1
    try clear c59
    try clear c59b0
    try clear c60
    try clear c61
    try clear p64
    try clear c65
    try clear c66
    try clear c70
    try clear c71
    try clear c74
    try clear c75
    try clear c78
    try clear c79
    try clear c82
    try clear c83
    try clear c86
    try clear c87
    try clear hcz18_0
    try clear hcz18_1
    try clear hcz18_2
    try clear hcz18_3
    try clear hcz18_4
    try clear hcz23_0
    try clear hcz23_1
    try clear hcz23_2
    try clear hcz23_3
    try clear hcz23_4
    try clear hcz30_0
    try clear hcz30_1
    try clear hcz30_2
    try clear hcz30_3
    try clear hcz30_4
    try clear hcz32_0
    try clear hcz32_1
    try clear hcz32_2
    try clear hcz32_3
    try clear hcz32_4
    try clear hcz35_0
    try clear hcz35_1
    try clear hcz35_2
    try clear hcz35_3
    try clear hcz35_4
    try clear hcz37_0
    try clear hcz37_1
    try clear hcz37_2
    try clear hcz37_3
    try clear hcz37_4
    try clear hcz40_0
    try clear hcz40_1
    try clear hcz40_2
    try clear hcz40_3
    try clear hcz40_4
    try clear hcz44_0
    try clear hcz44_1
    try clear hcz44_2
    try clear hcz44_3
    try clear hcz44_4
    try clear hcz50_0
    try clear hcz50_1
    try clear hcz50_2
    try clear hcz50_3
    try clear hcz50_4
    try clear hcz55_0
    try clear hcz55_1
    try clear hcz55_2
    try clear hcz55_3
    try clear hcz55_4
    try clear hcz62_0
    try clear hcz62_1
    try clear hcz62_2
    try clear hcz62_3
    try clear hcz62_4
    try clear hcz64_0
    try clear hcz64_1
    try clear hcz64_2
    try clear hcz64_3
    try clear hcz64_4
    try clear hcz67_0
    try clear hcz67_1
    try clear hcz67_2
    try clear hcz67_3
    try clear hcz67_4
    try clear hcz69_0
    try clear hcz69_1
    try clear hcz69_2
    try clear hcz69_3
    try clear hcz69_4
    try clear hcz72_0
    try clear hcz72_1
    try clear hcz72_2
    try clear hcz72_3
    try clear hcz72_4
    try clear hcz76_0
    try clear hcz76_1
    try clear hcz76_2
    try clear hcz76_3
    try clear hcz76_4
    try clear hcz80_0
    try clear hcz80_1
    try clear hcz80_2
    try clear hcz80_3
    try clear hcz80_4
    try clear hcz84_0
    try clear hcz84_1
    try clear hcz84_2
    try clear hcz84_3
    try clear hcz84_4
    try clear hcz88_0
    try clear hcz88_1
    try clear hcz88_2
    try clear hcz88_3
    try clear hcz88_4
    try clear hfz18_0
    try clear hfz18_1
    try clear hfz18_2
    try clear hfz18_3
    try clear hfz18_4
    try clear hfz23_0
    try clear hfz23_1
    try clear hfz23_2
    try clear hfz23_3
    try clear hfz23_4
    try clear hfz30_0
    try clear hfz30_1
    try clear hfz30_2
    try clear hfz30_3
    try clear hfz30_4
    try clear hfz32_0
    try clear hfz32_1
    try clear hfz32_2
    try clear hfz32_3
    try clear hfz32_4
    try clear hfz35_0
    try clear hfz35_1
    try clear hfz35_2
    try clear hfz35_3
    try clear hfz35_4
    try clear hfz37_0
    try clear hfz37_1
    try clear hfz37_2
    try clear hfz37_3
    try clear hfz37_4
    try clear hfz40_0
    try clear hfz40_1
    try clear hfz40_2
    try clear hfz40_3
    try clear hfz40_4
    try clear hfz44_0
    try clear hfz44_1
    try clear hfz44_2
    try clear hfz44_3
    try clear hfz44_4
    try clear hfz50_0
    try clear hfz50_1
    try clear hfz50_2
    try clear hfz50_3
    try clear hfz50_4
    try clear hfz55_0
    try clear hfz55_1
    try clear hfz55_2
    try clear hfz55_3
    try clear hfz55_4
    try clear hfz62_0
    try clear hfz62_1
    try clear hfz62_2
    try clear hfz62_3
    try clear hfz62_4
    try clear hfz64_0
    try clear hfz64_1
    try clear hfz64_2
    try clear hfz64_3
    try clear hfz64_4
    try clear hfz67_0
    try clear hfz67_1
    try clear hfz67_2
    try clear hfz67_3
    try clear hfz67_4
    try clear hfz69_0
    try clear hfz69_1
    try clear hfz69_2
    try clear hfz69_3
    try clear hfz69_4
    try clear hfz72_0
    try clear hfz72_1
    try clear hfz72_2
    try clear hfz72_3
    try clear hfz72_4
    try clear hfz76_0
    try clear hfz76_1
    try clear hfz76_2
    try clear hfz76_3
    try clear hfz76_4
    try clear hfz80_0
    try clear hfz80_1
    try clear hfz80_2
    try clear hfz80_3
    try clear hfz80_4
    try clear hfz84_0
    try clear hfz84_1
    try clear hfz84_2
    try clear hfz84_3
    try clear hfz84_4
    try clear hfz88_0
    try clear hfz88_1
    try clear hfz88_2
    try clear hfz88_3
    try clear hfz88_4
    obtain ⟨kq, x62_6, rfl, HA, HJ6, BK244, BK245, BK246, HB⟩ := hcut
    cases kq with
    | zero => exact absurd HA.out (by simp [cutroomref08_Predict.j0])
    | succ kj6 =>
      have H := HA.out
      clear HA
      simp only [cutroomref08_Predict.j0] at H
      by_cases c90 : x62_6 = true
      · subst c90
        have H1 : (some (0, 0, ([] : List Int), ([] : List Int), ([] : List Int), 1)) = some (r1, r2, r3, r4, r5, r6) := by rw [if_pos rfl] at H; exact H
        clear H
        have H := H1
        clear H1
        simp only [Option.some.injEq, Prod.mk.injEq] at H
        obtain ⟨rfl, rfl, rfl, rfl, rfl, rfl⟩ := H
        have hnb91 := NB246_244.out
        have hnc91 := NB244_246.out
        have hnb92 := NB246_245.out
        have hnc92 := NB245_246.out
        have hcz93_0 : wc.cell? ⟨gb246, 0, none⟩ = some (.int .i64 0) := (blk_cell BK246.out 0).trans rfl
        have hcz93_1 : wc.cell? ⟨gb246, 1, none⟩ = some (.int .i64 0) := (blk_cell BK246.out 1).trans rfl
        have hcz93_2 : wc.cell? ⟨gb246, 2, none⟩ = some (.slice none 0 0) := (blk_cell BK246.out 2).trans rfl
        have hcz93_3 : wc.cell? ⟨gb246, 3, none⟩ = some (.slice none 0 0) := (blk_cell BK246.out 3).trans rfl
        have hcz93_4 : wc.cell? ⟨gb246, 4, none⟩ = some (.slice none 0 0) := (blk_cell BK246.out 4).trans rfl
        have hfz93_0 := blk_frozen BK246.out 0
        have hfz93_1 := blk_frozen BK246.out 1
        have hfz93_2 := blk_frozen BK246.out 2
        have hfz93_3 := blk_frozen BK246.out 3
        have hfz93_4 := blk_frozen BK246.out 4
        go_wp2
        refine bodyPost_ret (results_ct rfl _ _ gb246 24 #[.int .i64 0, .int .i64 0, .slice none 0 0, .slice none 0 0, .slice none 0 0] (0, 0) _ rfl (by (with_reducible repeat (first | refine blk_drewN ?_ _ | refine blk_drew ?_ | refine blk_alloc ?_ _)); refine blk_put (cs := #[.int .i64 0, .int .i64 0, .slice none 0 0, .slice none 0 0, .slice none 0 0]) ?_ 4 _ rfl; (with_reducible repeat (first | refine blk_drewN ?_ _ | refine blk_drew ?_ | refine blk_alloc ?_ _)); refine blk_put (cs := #[.int .i64 0, .int .i64 0, .slice none 0 0, .slice none 0 0, .slice none 0 0]) ?_ 3 _ rfl; (with_reducible repeat (first | refine blk_drewN ?_ _ | refine blk_drew ?_ | refine blk_alloc ?_ _)); refine blk_put (cs := #[.int .i64 0, .int .i64 0, .slice none 0 0, .slice none 0 0, .slice none 0 0]) ?_ 2 _ rfl; (with_reducible repeat (first | refine blk_drewN ?_ _ | refine blk_drew ?_ | refine blk_alloc ?_ _)); refine blk_put (cs := #[.int .i64 0, .int .i64 0, .slice none 0 0, .slice none 0 0, .slice none 0 0]) ?_ 1 _ rfl; (with_reducible repeat (first | refine blk_drewN ?_ _ | refine blk_drew ?_ | refine blk_alloc ?_ _)); refine blk_put (cs := #[.int .i64 0, .int .i64 0, .slice none 0 0, .slice none 0 0, .slice none 0 0]) ?_ 0 _ rfl; (with_reducible repeat (first | refine blk_drewN ?_ _ | refine blk_drew ?_ | refine blk_alloc ?_ _)); exact BK246.out) Try.underlying24 rfl (by kernel_rfl)) rfl ?_
        exact ⟨_, _, _, by first | rfl | (simp [errW_none, errW_some] <;> rfl) | (simp [*, errW_none, errW_some] <;> rfl), by first | exact Kd.R_nil _ _ _ _ _ | exact Kd.N_nil _ _ _ _ _ | exact Kd.V_nil _ _ _ _ _ | exact Kd.Q_nil _ _ _ _ _ | exact Kd.S_nil _ _ _ _ _, by first | exact Kd.R_nil _ _ _ _ _ | exact Kd.N_nil _ _ _ _ _ | exact Kd.V_nil _ _ _ _ _ | exact Kd.Q_nil _ _ _ _ _ | exact Kd.S_nil _ _ _ _ _, by first | exact Kd.R_nil _ _ _ _ _ | exact Kd.N_nil _ _ _ _ _ | exact Kd.V_nil _ _ _ _ _ | exact Kd.Q_nil _ _ _ _ _ | exact Kd.S_nil _ _ _ _ _, by repeat (first | (with_reducible first | exact HB.out | apply below_alloc | apply pw_below_drewN | apply below_drew1 | refine below_set ?_ GE244.out | refine below_set ?_ GE245.out | refine below_set ?_ GE246.out) | exact HB.out)⟩
      · replace c90 := Bool.eq_false_iff.mpr c90
        subst c90
        have H1 : ((cutroomref08_May.f a5_0 a5_1).bind fun t248 => (if t248 = true then ((cutroomref08_component.f kj6 l0_2 a0_0 a1 a2 a3 a4 a5_0 a5_1).bind fun t249 => ((cutroomref08_component.f kj6 l0_3 (wrap64 (Int.tdiv a0_0 2)) (wrap64 (Int.tdiv a1 2)) (wrap64 (Int.tdiv a2 2)) (wrap64 (Int.tdiv a3 2)) (wrap64 (Int.tdiv a4 2)) (wrap64 (Int.tdiv a5_0 2)) (wrap64 (Int.tdiv a5_1 2))).bind fun t252 => ((cutroomref08_component.f kj6 l0_4 (wrap64 (Int.tdiv a0_0 2)) (wrap64 (Int.tdiv a1 2)) (wrap64 (Int.tdiv a2 2)) (wrap64 (Int.tdiv a3 2)) (wrap64 (Int.tdiv a4 2)) (wrap64 (Int.tdiv a5_0 2)) (wrap64 (Int.tdiv a5_1 2))).bind fun t255 => (some (a3, a4, t249, t252, t255, 0))))) else (some (0, 0, ([] : List Int), ([] : List Int), ([] : List Int), 2)))) = some (r1, r2, r3, r4, r5, r6) := by rw [if_neg (show ¬ (false = true) by decide)] at H; exact H
        clear H
        have H := H1
        clear H1
        replace H := Option.bind_eq_some_iff.mp H
        obtain ⟨t248, A940, H⟩ := H
        replace H : (if t248 = true then ((cutroomref08_component.f kj6 l0_2 a0_0 a1 a2 a3 a4 a5_0 a5_1).bind fun t249 => ((cutroomref08_component.f kj6 l0_3 (wrap64 (Int.tdiv a0_0 2)) (wrap64 (Int.tdiv a1 2)) (wrap64 (Int.tdiv a2 2)) (wrap64 (Int.tdiv a3 2)) (wrap64 (Int.tdiv a4 2)) (wrap64 (Int.tdiv a5_0 2)) (wrap64 (Int.tdiv a5_1 2))).bind fun t252 => ((cutroomref08_component.f kj6 l0_4 (wrap64 (Int.tdiv a0_0 2)) (wrap64 (Int.tdiv a1 2)) (wrap64 (Int.tdiv a2 2)) (wrap64 (Int.tdiv a3 2)) (wrap64 (Int.tdiv a4 2)) (wrap64 (Int.tdiv a5_0 2)) (wrap64 (Int.tdiv a5_1 2))).bind fun t255 => (some (a3, a4, t249, t252, t255, 0))))) else (some (0, 0, ([] : List Int), ([] : List Int), ([] : List Int), 2))) = some (r1, r2, r3, r4, r5, r6) := H
        have A94 := Aside0.mk A940
        clear A940
        by_cases c95 : t248 = true
        · subst c95
          have H1 : ((cutroomref08_component.f kj6 l0_2 a0_0 a1 a2 a3 a4 a5_0 a5_1).bind fun t249 => ((cutroomref08_component.f kj6 l0_3 (wrap64 (Int.tdiv a0_0 2)) (wrap64 (Int.tdiv a1 2)) (wrap64 (Int.tdiv a2 2)) (wrap64 (Int.tdiv a3 2)) (wrap64 (Int.tdiv a4 2)) (wrap64 (Int.tdiv a5_0 2)) (wrap64 (Int.tdiv a5_1 2))).bind fun t252 => ((cutroomref08_component.f kj6 l0_4 (wrap64 (Int.tdiv a0_0 2)) (wrap64 (Int.tdiv a1 2)) (wrap64 (Int.tdiv a2 2)) (wrap64 (Int.tdiv a3 2)) (wrap64 (Int.tdiv a4 2)) (wrap64 (Int.tdiv a5_0 2)) (wrap64 (Int.tdiv a5_1 2))).bind fun t255 => (some (a3, a4, t249, t252, t255, 0))))) = some (r1, r2, r3, r4, r5, r6) := by rw [if_pos rfl] at H; exact H
          clear H
          have H := H1
          clear H1
          replace H := Option.bind_eq_some_iff.mp H
          obtain ⟨t249, A960, H⟩ := H
          replace H : ((cutroomref08_component.f kj6 l0_3 (wrap64 (Int.tdiv a0_0 2)) (wrap64 (Int.tdiv a1 2)) (wrap64 (Int.tdiv a2 2)) (wrap64 (Int.tdiv a3 2)) (wrap64 (Int.tdiv a4 2)) (wrap64 (Int.tdiv a5_0 2)) (wrap64 (Int.tdiv a5_1 2))).bind fun t252 => ((cutroomref08_component.f kj6 l0_4 (wrap64 (Int.tdiv a0_0 2)) (wrap64 (Int.tdiv a1 2)) (wrap64 (Int.tdiv a2 2)) (wrap64 (Int.tdiv a3 2)) (wrap64 (Int.tdiv a4 2)) (wrap64 (Int.tdiv a5_0 2)) (wrap64 (Int.tdiv a5_1 2))).bind fun t255 => (some (a3, a4, t249, t252, t255, 0)))) = some (r1, r2, r3, r4, r5, r6) := H
          have A96 := Aside0.mk A960
          clear A960
          replace H := Option.bind_eq_some_iff.mp H
          obtain ⟨t252, A970, H⟩ := H
          replace H : ((cutroomref08_component.f kj6 l0_4 (wrap64 (Int.tdiv a0_0 2)) (wrap64 (Int.tdiv a1 2)) (wrap64 (Int.tdiv a2 2)) (wrap64 (Int.tdiv a3 2)) (wrap64 (Int.tdiv a4 2)) (wrap64 (Int.tdiv a5_0 2)) (wrap64 (Int.tdiv a5_1 2))).bind fun t255 => (some (a3, a4, t249, t252, t255, 0))) = some (r1, r2, r3, r4, r5, r6) := H
          have A97 := Aside0.mk A970
          clear A970
          replace H := Option.bind_eq_some_iff.mp H
          obtain ⟨t255, A980, H⟩ := H
          replace H : (some (a3, a4, t249, t252, t255, 0)) = some (r1, r2, r3, r4, r5, r6) := H
          have A98 := Aside0.mk A980
          clear A980
          simp only [Option.some.injEq, Prod.mk.injEq] at H
          obtain ⟨rfl, rfl, rfl, rfl, rfl, rfl⟩ := H
          have hnb99 := NB245_244.out
          have hnc99 := NB244_245.out
          have hnb100 := NB245_246.out
          have hnc100 := NB246_245.out
          have hcz101_0 : wc.cell? ⟨gb245, 0, none⟩ = some (.int .i64 a5_0) := (blk_cell BK245.out 0).trans rfl
          have hcz101_1 : wc.cell? ⟨gb245, 1, none⟩ = some (.int .i64 a5_1) := (blk_cell BK245.out 1).trans rfl
          have hfz101_0 := blk_frozen BK245.out 0
          have hfz101_1 := blk_frozen BK245.out 1
          try go_wp2_with (first | ((with_reducible refine gate_callee (f := 34) rfl ?_); refine goesL_ (some 65) rfl rfl Try.func34 (by kernel_rfl) rfl #[.agg #[.int .i64 a5_0, .int .i64 a5_1]] rfl (by (try simp only [List.map_toArray, List.map_cons, List.map_nil]); first | done | rfl | (simp only [List.length_drop, List.length_take]; rfl)) ?_; (with_reducible refine (cutroomref08_May.calls a5_0 a5_1 true _ A94.out).mono ?_); rintro e w102 ⟨rfl, hb⟩; refine ⟨_, rfl, ?_⟩; have n0_ := Aside0.mk (blk_below (g := gb244) (o := .cells #[.int .i64 a0_0, .int .i64 a0_1, .slice A0_2 l0_2.length c0_2, .slice A0_3 l0_3.length c0_3, .slice A0_4 l0_4.length c0_4] 24 (0, 0)) (by (with_reducible repeat (first | refine blk_drewN ?_ _ | refine blk_drew ?_ | refine blk_alloc ?_ _)); exact BK244.out) hb); have n1_ := Aside0.mk (blk_below (g := gb245) (o := .cells #[.int .i64 a5_0, .int .i64 a5_1] 32 (0, 0)) (by (with_reducible repeat (first | refine blk_drewN ?_ _ | refine blk_drew ?_ | refine blk_alloc ?_ _)); exact BK245.out) hb); have n2_ := Aside0.mk (blk_below (g := gb246) (o := .cells #[.int .i64 0, .int .i64 0, .slice none 0 0, .slice none 0 0, .slice none 0 0] 24 (0, 0)) (by (with_reducible repeat (first | refine blk_drewN ?_ _ | refine blk_drew ?_ | refine blk_alloc ?_ _)); exact BK246.out) hb); have n3_ := Aside0.mk (below_step (by repeat (first | (with_reducible first | exact HB.out | apply below_alloc | apply pw_below_drewN | apply below_drew1 | refine below_set ?_ GE244.out | refine below_set ?_ GE245.out | refine below_set ?_ GE246.out) | exact HB.out)) hb); clear BK244; clear BK245; clear BK246; clear HB; have BK244 := n0_; have BK245 := n1_; have BK246 := n2_; have HB := n3_; clear n0_ n1_ n2_ n3_; (try clear hb); (try clear hb2); (try clear hk); (try clear hi)))
          have n0_ := Aside0.mk (blk_drew BK244.out)
          have n1_ := Aside0.mk (blk_drew BK245.out)
          have n2_ := Aside0.mk (blk_drew BK246.out)
          have n3_ := Aside0.mk (below_drew1 HB.out)
          clear BK244
          clear BK245
          clear BK246
          clear HB
          have BK244 := n0_
          have BK245 := n1_
          have BK246 := n2_
          have HB := n3_
          clear n0_ n1_ n2_ n3_
          refine start_ (n := 58) (S := fun w' => w'.cell? ⟨gb244, 0, none⟩ = some (.int .i64 a0_0) ∧ w'.cell? ⟨gb244, 1, none⟩ = some (.int .i64 a0_1) ∧ w'.cell? ⟨gb244, 2, none⟩ = some (.slice A0_2 l0_2.length c0_2) ∧ w'.cell? ⟨gb244, 3, none⟩ = some (.slice A0_3 l0_3.length c0_3) ∧ w'.cell? ⟨gb244, 4, none⟩ = some (.slice A0_4 l0_4.length c0_4) ∧ w'.cell? ⟨gb245, 0, none⟩ = some (.int .i64 a5_0) ∧ w'.cell? ⟨gb245, 1, none⟩ = some (.int .i64 a5_1)) (ds := []) #[false, false, false, false, false, false, false, false, false, false, false, false, false, false, false, false, false, false, false, false, false, false, false, false, false, false, false, false, false, false, false, false, false, false, false, false, false, false, false, false, false, false, false, false, false, false, false, false, false, false, false, false, false, false, false, false, false, false] (by kernel_rfl) rfl rfl ⟨(blk_cell BK244.out 0).trans rfl, (blk_cell BK244.out 1).trans rfl, (blk_cell BK244.out 2).trans rfl, (blk_cell BK244.out 3).trans rfl, (blk_cell BK244.out 4).trans rfl, (blk_cell BK245.out 0).trans rfl, (blk_cell BK245.out 1).trans rfl⟩ (fun hHeld => ?_); refine with_tabW cutroomref08_Predict.tab5 cutroomref08_Predict.bits5 (fun HT_ HW_ => ?_)
          generalize w102.drew = w103 at BK244 BK245 BK246 HB hHeld ⊢
          refine pure_ (i := 0) (N := some 68) (v := ?_) (a' := ?_) #[true, false, false, false, false, false, false, false, false, false, false, false, false, false, false, false, false, false, false, false, false, false, false, false, false, false, false, false, false, false, false, false, false, false, false, false, false, false, false, false, false, false, false, false, false, false, false, false, false, false, false, false, false, false, false, false, false, false] rfl rfl (any_of HT_.out (by kernel_rfl)) (fun _ _ _ h => h) (Or.inl ⟨by rfl, ?_⟩) ?_ ?_
          rotate_left
          · intro w'
            go_simp
            with_reducible rfl
          rotate_left
          · simp only [Act.put, List.setIfInBounds_toArray, List.set_cons_zero, List.set_cons_succ, i64_w, i32_w]
            rfl
          refine pure_ (i := 1) (N := some 69) (v := ?_) (a' := ?_) #[true, true, false, false, false, false, false, false, false, false, false, false, false, false, false, false, false, false, false, false, false, false, false, false, false, false, false, false, false, false, false, false, false, false, false, false, false, false, false, false, false, false, false, false, false, false, false, false, false, false, false, false, false, false, false, false, false, false] rfl rfl (any_of HT_.out (by kernel_rfl)) (fun _ _ _ h => h) (Or.inl ⟨by rfl, ?_⟩) ?_ ?_
          rotate_left
          · intro w'
            go_simp
            with_reducible rfl
          rotate_left
          · simp only [Act.put, List.setIfInBounds_toArray, List.set_cons_zero, List.set_cons_succ, i64_w, i32_w]
            rfl
          refine pure_ (i := 2) (N := some 70) (v := ?_) (a' := ?_) #[true, true, true, false, false, false, false, false, false, false, false, false, false, false, false, false, false, false, false, false, false, false, false, false, false, false, false, false, false, false, false, false, false, false, false, false, false, false, false, false, false, false, false, false, false, false, false, false, false, false, false, false, false, false, false, false, false, false] rfl rfl (any_of HT_.out (by kernel_rfl)) (fun _ _ _ h => h) (Or.inl ⟨by rfl, ?_⟩) ?_ ?_
          rotate_left
          · intro w'
            go_simp
            with_reducible rfl
          rotate_left
          · simp only [Act.put, List.setIfInBounds_toArray, List.set_cons_zero, List.set_cons_succ, i64_w, i32_w]
            rfl
          refine pure_ (i := 4) (N := some 72) (v := ?_) (a' := ?_) #[true, true, true, false, true, false, false, false, false, false, false, false, false, false, false, false, false, false, false, false, false, false, false, false, false, false, false, false, false, false, false, false, false, false, false, false, false, false, false, false, false, false, false, false, false, false, false, false, false, false, false, false, false, false, false, false, false, false] rfl rfl (any_of HT_.out (by kernel_rfl)) (fun _ _ _ h => h) (Or.inl ⟨by rfl, ?_⟩) ?_ ?_
          rotate_left
          · intro w'
            go_simp
            with_reducible rfl
          rotate_left
          · simp only [Act.put, List.setIfInBounds_toArray, List.set_cons_zero, List.set_cons_succ, i64_w, i32_w]
            rfl
          refine pure_ (i := 6) (N := some 74) (v := ?_) (a' := ?_) #[true, true, true, false, true, false, true, false, false, false, false, false, false, false, false, false, false, false, false, false, false, false, false, false, false, false, false, false, false, false, false, false, false, false, false, false, false, false, false, false, false, false, false, false, false, false, false, false, false, false, false, false, false, false, false, false, false, false] rfl rfl (any_of HT_.out (by kernel_rfl)) (fun _ _ _ h => h) (Or.inl ⟨by rfl, ?_⟩) ?_ ?_
          rotate_left
          · intro w'
            go_simp
            with_reducible rfl
          rotate_left
          · simp only [Act.put, List.setIfInBounds_toArray, List.set_cons_zero, List.set_cons_succ, i64_w, i32_w]
            rfl
          refine pure_ (i := 7) (N := some 75) (v := ?_) (a' := ?_) #[true, true, true, false, true, false, true, true, false, false, false, false, false, false, false, false, false, false, false, false, false, false, false, false, false, false, false, false, false, false, false, false, false, false, false, false, false, false, false, false, false, false, false, false, false, false, false, false, false, false, false, false, false, false, false, false, false, false] rfl rfl (any_of HT_.out (by kernel_rfl)) (fun _ _ _ h => h) (Or.inl ⟨by rfl, ?_⟩) ?_ ?_
          rotate_left
          · intro w'
            go_simp
            with_reducible rfl
          rotate_left
          · simp only [Act.put, List.setIfInBounds_toArray, List.set_cons_zero, List.set_cons_succ, i64_w, i32_w]
            rfl
          refine pure_ (i := 8) (N := some 76) (v := ?_) (a' := ?_) #[true, true, true, false, true, false, true, true, true, false, false, false, false, false, false, false, false, false, false, false, false, false, false, false, false, false, false, false, false, false, false, false, false, false, false, false, false, false, false, false, false, false, false, false, false, false, false, false, false, false, false, false, false, false, false, false, false, false] rfl rfl (any_of HT_.out (by kernel_rfl)) (fun _ _ _ h => h) (Or.inl ⟨by rfl, ?_⟩) ?_ ?_
          rotate_left
          · intro w'
            go_simp
            with_reducible rfl
          rotate_left
          · simp only [Act.put, List.setIfInBounds_toArray, List.set_cons_zero, List.set_cons_succ, i64_w, i32_w]
            rfl
          refine pure_ (i := 9) (N := some 77) (v := ?_) (a' := ?_) #[true, true, true, false, true, false, true, true, true, true, false, false, false, false, false, false, false, false, false, false, false, false, false, false, false, false, false, false, false, false, false, false, false, false, false, false, false, false, false, false, false, false, false, false, false, false, false, false, false, false, false, false, false, false, false, false, false, false] rfl rfl (any_of HT_.out (by kernel_rfl)) (fun _ _ _ h => h) (Or.inl ⟨by rfl, ?_⟩) ?_ ?_
          rotate_left
          · intro w'
            go_simp
            with_reducible rfl
          rotate_left
          · simp only [Act.put, List.setIfInBounds_toArray, List.set_cons_zero, List.set_cons_succ, i64_w, i32_w]
            rfl
          refine pure_ (i := 10) (N := some 78) (v := ?_) (a' := ?_) #[true, true, true, false, true, false, true, true, true, true, true, false, false, false, false, false, false, false, false, false, false, false, false, false, false, false, false, false, false, false, false, false, false, false, false, false, false, false, false, false, false, false, false, false, false, false, false, false, false, false, false, false, false, false, false, false, false, false] rfl rfl (any_of HT_.out (by kernel_rfl)) (fun _ _ _ h => h) (Or.inl ⟨by rfl, ?_⟩) ?_ ?_
          rotate_left
          · intro w'
            go_simp
            with_reducible rfl
          rotate_left
          · simp only [Act.put, List.setIfInBounds_toArray, List.set_cons_zero, List.set_cons_succ, i64_w, i32_w]
            rfl
          refine pure_ (i := 12) (N := some 80) (v := ?_) (a' := ?_) #[true, true, true, false, true, false, true, true, true, true, true, false, true, false, false, false, false, false, false, false, false, false, false, false, false, false, false, false, false, false, false, false, false, false, false, false, false, false, false, false, false, false, false, false, false, false, false, false, false, false, false, false, false, false, false, false, false, false] rfl rfl (any_of HT_.out (by kernel_rfl)) (fun _ _ _ h => h) (Or.inl ⟨by rfl, ?_⟩) ?_ ?_
          rotate_left
          · intro w'
            go_simp
            with_reducible rfl
          rotate_left
          · simp only [Act.put, List.setIfInBounds_toArray, List.set_cons_zero, List.set_cons_succ, i64_w, i32_w]
            rfl
          refine pure_ (i := 15) (N := some 83) (v := ?_) (a' := ?_) #[true, true, true, false, true, false, true, true, true, true, true, false, true, false, false, true, false, false, false, false, false, false, false, false, false, false, false, false, false, false, false, false, false, false, false, false, false, false, false, false, false, false, false, false, false, false, false, false, false, false, false, false, false, false, false, false, false, false] rfl rfl (any_of HT_.out (by kernel_rfl)) (fun _ _ _ h => h) (Or.inl ⟨by rfl, ?_⟩) ?_ ?_
          rotate_left
          · intro w'
            go_simp
            with_reducible rfl
          rotate_left
          · simp only [Act.put, List.setIfInBounds_toArray, List.set_cons_zero, List.set_cons_succ, i64_w, i32_w]
            rfl
          refine pure_ (i := 17) (N := some 85) (v := ?_) (a' := ?_) #[true, true, true, false, true, false, true, true, true, true, true, false, true, false, false, true, false, true, false, false, false, false, false, false, false, false, false, false, false, false, false, false, false, false, false, false, false, false, false, false, false, false, false, false, false, false, false, false, false, false, false, false, false, false, false, false, false, false] rfl rfl (any_of HT_.out (by kernel_rfl)) (fun _ _ _ h => h) (Or.inl ⟨by rfl, ?_⟩) ?_ ?_
          rotate_left
          · intro w'
            go_simp
            with_reducible rfl
          rotate_left
          · simp only [Act.put, List.setIfInBounds_toArray, List.set_cons_zero, List.set_cons_succ, i64_w, i32_w]
            rfl
          refine pure_ (i := 20) (N := some 88) (v := ?_) (a' := ?_) #[true, true, true, false, true, false, true, true, true, true, true, false, true, false, false, true, false, true, false, false, true, false, false, false, false, false, false, false, false, false, false, false, false, false, false, false, false, false, false, false, false, false, false, false, false, false, false, false, false, false, false, false, false, false, false, false, false, false] rfl rfl (any_of HT_.out (by kernel_rfl)) (fun _ _ _ h => h) (Or.inl ⟨by rfl, ?_⟩) ?_ ?_
          rotate_left
          · intro w'
            go_simp
            with_reducible rfl
          rotate_left
          · simp only [Act.put, List.setIfInBounds_toArray, List.set_cons_zero, List.set_cons_succ, i64_w, i32_w]
            rfl
          refine pure_ (i := 21) (N := some 89) (v := ?_) (a' := ?_) #[true, true, true, false, true, false, true, true, true, true, true, false, true, false, false, true, false, true, false, false, true, true, false, false, false, false, false, false, false, false, false, false, false, false, false, false, false, false, false, false, false, false, false, false, false, false, false, false, false, false, false, false, false, false, false, false, false, false] rfl rfl (any_of HT_.out (by kernel_rfl)) (fun _ _ _ h => h) (Or.inl ⟨by rfl, ?_⟩) ?_ ?_
          rotate_left
          · intro w'
            go_simp
            with_reducible rfl
          rotate_left
          · simp only [Act.put, List.setIfInBounds_toArray, List.set_cons_zero, List.set_cons_succ, i64_w, i32_w]
            rfl
          refine pure_ (i := 22) (N := some 90) (v := ?_) (a' := ?_) #[true, true, true, false, true, false, true, true, true, true, true, false, true, false, false, true, false, true, false, false, true, true, true, false, false, false, false, false, false, false, false, false, false, false, false, false, false, false, false, false, false, false, false, false, false, false, false, false, false, false, false, false, false, false, false, false, false, false] rfl rfl (any_of HT_.out (by kernel_rfl)) (fun _ _ _ h => h) (Or.inl ⟨by rfl, ?_⟩) ?_ ?_
          rotate_left
          · intro w'
            go_simp
            with_reducible rfl
          rotate_left
          · simp only [Act.put, List.setIfInBounds_toArray, List.set_cons_zero, List.set_cons_succ, i64_w, i32_w]
            rfl
          refine pure_ (i := 23) (N := some 91) (v := ?_) (a' := ?_) #[true, true, true, false, true, false, true, true, true, true, true, false, true, false, false, true, false, true, false, false, true, true, true, true, false, false, false, false, false, false, false, false, false, false, false, false, false, false, false, false, false, false, false, false, false, false, false, false, false, false, false, false, false, false, false, false, false, false] rfl rfl (any_of HT_.out (by kernel_rfl)) (fun _ _ _ h => h) (Or.inl ⟨by rfl, ?_⟩) ?_ ?_
          rotate_left
          · intro w'
            go_simp
            with_reducible rfl
          rotate_left
          · simp only [Act.put, List.setIfInBounds_toArray, List.set_cons_zero, List.set_cons_succ, i64_w, i32_w]
            rfl
          refine pure_ (i := 24) (N := some 92) (v := ?_) (a' := ?_) #[true, true, true, false, true, false, true, true, true, true, true, false, true, false, false, true, false, true, false, false, true, true, true, true, true, false, false, false, false, false, false, false, false, false, false, false, false, false, false, false, false, false, false, false, false, false, false, false, false, false, false, false, false, false, false, false, false, false] rfl rfl (any_of HT_.out (by kernel_rfl)) (fun _ _ _ h => h) (Or.inl ⟨by rfl, ?_⟩) ?_ ?_
          rotate_left
          · intro w'
            go_simp
            with_reducible rfl
          rotate_left
          · simp only [Act.put, List.setIfInBounds_toArray, List.set_cons_zero, List.set_cons_succ, i64_w, i32_w]
            rfl
          refine pure_ (i := 25) (N := some 93) (v := ?_) (a' := ?_) #[true, true, true, false, true, false, true, true, true, true, true, false, true, false, false, true, false, true, false, false, true, true, true, true, true, true, false, false, false, false, false, false, false, false, false, false, false, false, false, false, false, false, false, false, false, false, false, false, false, false, false, false, false, false, false, false, false, false] rfl rfl (any_of HT_.out (by kernel_rfl)) (fun _ _ _ h => h) (Or.inl ⟨by rfl, ?_⟩) ?_ ?_
          rotate_left
          · intro w'
            go_simp
            with_reducible rfl
          rotate_left
          · simp only [Act.put, List.setIfInBounds_toArray, List.set_cons_zero, List.set_cons_succ, i64_w, i32_w]
            rfl
          refine pure_ (i := 26) (N := some 94) (v := ?_) (a' := ?_) #[true, true, true, false, true, false, true, true, true, true, true, false, true, false, false, true, false, true, false, false, true, true, true, true, true, true, true, false, false, false, false, false, false, false, false, false, false, false, false, false, false, false, false, false, false, false, false, false, false, false, false, false, false, false, false, false, false, false] rfl rfl (any_of HT_.out (by kernel_rfl)) (fun _ _ _ h => h) (Or.inl ⟨by rfl, ?_⟩) ?_ ?_
          rotate_left
          · intro w'
            go_simp
            with_reducible rfl
          rotate_left
          · simp only [Act.put, List.setIfInBounds_toArray, List.set_cons_zero, List.set_cons_succ, i64_w, i32_w]
            rfl
          refine pure_ (i := 27) (N := some 95) (v := ?_) (a' := ?_) #[true, true, true, false, true, false, true, true, true, true, true, false, true, false, false, true, false, true, false, false, true, true, true, true, true, true, true, true, false, false, false, false, false, false, false, false, false, false, false, false, false, false, false, false, false, false, false, false, false, false, false, false, false, false, false, false, false, false] rfl rfl (any_of HT_.out (by kernel_rfl)) (fun _ _ _ h => h) (Or.inl ⟨by rfl, ?_⟩) ?_ ?_
          rotate_left
          · intro w'
            go_simp
            with_reducible rfl
          rotate_left
          · simp only [Act.put, List.setIfInBounds_toArray, List.set_cons_zero, List.set_cons_succ, i64_w, i32_w]
            rfl
          refine pure_ (i := 28) (N := some 96) (v := ?_) (a' := ?_) #[true, true, true, false, true, false, true, true, true, true, true, false, true, false, false, true, false, true, false, false, true, true, true, true, true, true, true, true, true, false, false, false, false, false, false, false, false, false, false, false, false, false, false, false, false, false, false, false, false, false, false, false, false, false, false, false, false, false] rfl rfl (any_of HT_.out (by kernel_rfl)) (fun _ _ _ h => h) (Or.inl ⟨by rfl, ?_⟩) ?_ ?_
          rotate_left
          · intro w'
            go_simp
            with_reducible rfl
          rotate_left
          · simp only [Act.put, List.setIfInBounds_toArray, List.set_cons_zero, List.set_cons_succ, i64_w, i32_w]
            rfl
          refine pure_ (i := 31) (N := some 99) (v := ?_) (a' := ?_) #[true, true, true, false, true, false, true, true, true, true, true, false, true, false, false, true, false, true, false, false, true, true, true, true, true, true, true, true, true, false, false, true, false, false, false, false, false, false, false, false, false, false, false, false, false, false, false, false, false, false, false, false, false, false, false, false, false, false] rfl rfl (any_of HT_.out (by kernel_rfl)) (fun _ _ _ h => h) (Or.inl ⟨by rfl, ?_⟩) ?_ ?_
          rotate_left
          · intro w'
            go_simp
            with_reducible rfl
          rotate_left
          · simp only [Act.put, List.setIfInBounds_toArray, List.set_cons_zero, List.set_cons_succ, i64_w, i32_w]
            rfl
          refine pure_ (i := 35) (N := some 103) (v := ?_) (a' := ?_) #[true, true, true, false, true, false, true, true, true, true, true, false, true, false, false, true, false, true, false, false, true, true, true, true, true, true, true, true, true, false, false, true, false, false, false, true, false, false, false, false, false, false, false, false, false, false, false, false, false, false, false, false, false, false, false, false, false, false] rfl rfl (any_of HT_.out (by kernel_rfl)) (fun _ _ _ h => h) (Or.inl ⟨by rfl, ?_⟩) ?_ ?_
          rotate_left
          · intro w'
            go_simp
            with_reducible rfl
          rotate_left
          · simp only [Act.put, List.setIfInBounds_toArray, List.set_cons_zero, List.set_cons_succ, i64_w, i32_w]
            rfl
          refine pure_ (i := 37) (N := some 105) (v := ?_) (a' := ?_) #[true, true, true, false, true, false, true, true, true, true, true, false, true, false, false, true, false, true, false, false, true, true, true, true, true, true, true, true, true, false, false, true, false, false, false, true, false, true, false, false, false, false, false, false, false, false, false, false, false, false, false, false, false, false, false, false, false, false] rfl rfl (any_of HT_.out (by kernel_rfl)) (fun _ _ _ h => h) (Or.inl ⟨by rfl, ?_⟩) ?_ ?_
          rotate_left
          · intro w'
            go_simp
            with_reducible rfl
          rotate_left
          · simp only [Act.put, List.setIfInBounds_toArray, List.set_cons_zero, List.set_cons_succ, i64_w, i32_w]
            rfl
          refine pure_ (i := 40) (N := some 108) (v := ?_) (a' := ?_) #[true, true, true, false, true, false, true, true, true, true, true, false, true, false, false, true, false, true, false, false, true, true, true, true, true, true, true, true, true, false, false, true, false, false, false, true, false, true, false, false, true, false, false, false, false, false, false, false, false, false, false, false, false, false, false, false, false, false] rfl rfl (any_of HT_.out (by kernel_rfl)) (fun _ _ _ h => h) (Or.inl ⟨by rfl, ?_⟩) ?_ ?_
          rotate_left
          · intro w'
            go_simp
            with_reducible rfl
          rotate_left
          · simp only [Act.put, List.setIfInBounds_toArray, List.set_cons_zero, List.set_cons_succ, i64_w, i32_w]
            rfl
          refine pure_ (i := 41) (N := some 109) (v := ?_) (a' := ?_) #[true, true, true, false, true, false, true, true, true, true, true, false, true, false, false, true, false, true, false, false, true, true, true, true, true, true, true, true, true, false, false, true, false, false, false, true, false, true, false, false, true, true, false, false, false, false, false, false, false, false, false, false, false, false, false, false, false, false] rfl rfl (any_of HT_.out (by kernel_rfl)) (fun _ _ _ h => h) (Or.inl ⟨by rfl, ?_⟩) ?_ ?_
          rotate_left
          · intro w'
            go_simp
            with_reducible rfl
          rotate_left
          · simp only [Act.put, List.setIfInBounds_toArray, List.set_cons_zero, List.set_cons_succ, i64_w, i32_w]
            rfl
          refine pure_ (i := 42) (N := some 110) (v := ?_) (a' := ?_) #[true, true, true, false, true, false, true, true, true, true, true, false, true, false, false, true, false, true, false, false, true, true, true, true, true, true, true, true, true, false, false, true, false, false, false, true, false, true, false, false, true, true, true, false, false, false, false, false, false, false, false, false, false, false, false, false, false, false] rfl rfl (any_of HT_.out (by kernel_rfl)) (fun _ _ _ h => h) (Or.inl ⟨by rfl, ?_⟩) ?_ ?_
          rotate_left
          · intro w'
            go_simp
            with_reducible rfl
          rotate_left
          · simp only [Act.put, List.setIfInBounds_toArray, List.set_cons_zero, List.set_cons_succ, i64_w, i32_w]
            rfl
          refine pure_ (i := 43) (N := some 111) (v := ?_) (a' := ?_) #[true, true, true, false, true, false, true, true, true, true, true, false, true, false, false, true, false, true, false, false, true, true, true, true, true, true, true, true, true, false, false, true, false, false, false, true, false, true, false, false, true, true, true, true, false, false, false, false, false, false, false, false, false, false, false, false, false, false] rfl rfl (any_of HT_.out (by kernel_rfl)) (fun _ _ _ h => h) (Or.inl ⟨by rfl, ?_⟩) ?_ ?_
          rotate_left
          · intro w'
            go_simp
            with_reducible rfl
          rotate_left
          · simp only [Act.put, List.setIfInBounds_toArray, List.set_cons_zero, List.set_cons_succ, i64_w, i32_w]
            rfl
          refine pure_ (i := 44) (N := some 112) (v := ?_) (a' := ?_) #[true, true, true, false, true, false, true, true, true, true, true, false, true, false, false, true, false, true, false, false, true, true, true, true, true, true, true, true, true, false, false, true, false, false, false, true, false, true, false, false, true, true, true, true, true, false, false, false, false, false, false, false, false, false, false, false, false, false] rfl rfl (any_of HT_.out (by kernel_rfl)) (fun _ _ _ h => h) (Or.inl ⟨by rfl, ?_⟩) ?_ ?_
          rotate_left
          · intro w'
            go_simp
            with_reducible rfl
          rotate_left
          · simp only [Act.put, List.setIfInBounds_toArray, List.set_cons_zero, List.set_cons_succ, i64_w, i32_w]
            rfl
          refine pure_ (i := 45) (N := some 113) (v := ?_) (a' := ?_) #[true, true, true, false, true, false, true, true, true, true, true, false, true, false, false, true, false, true, false, false, true, true, true, true, true, true, true, true, true, false, false, true, false, false, false, true, false, true, false, false, true, true, true, true, true, true, false, false, false, false, false, false, false, false, false, false, false, false] rfl rfl (any_of HT_.out (by kernel_rfl)) (fun _ _ _ h => h) (Or.inl ⟨by rfl, ?_⟩) ?_ ?_
          rotate_left
          · intro w'
            go_simp
            with_reducible rfl
          rotate_left
          · simp only [Act.put, List.setIfInBounds_toArray, List.set_cons_zero, List.set_cons_succ, i64_w, i32_w]
            rfl
          refine pure_ (i := 46) (N := some 114) (v := ?_) (a' := ?_) #[true, true, true, false, true, false, true, true, true, true, true, false, true, false, false, true, false, true, false, false, true, true, true, true, true, true, true, true, true, false, false, true, false, false, false, true, false, true, false, false, true, true, true, true, true, true, true, false, false, false, false, false, false, false, false, false, false, false] rfl rfl (any_of HT_.out (by kernel_rfl)) (fun _ _ _ h => h) (Or.inl ⟨by rfl, ?_⟩) ?_ ?_
          rotate_left
          · intro w'
            go_simp
            with_reducible rfl
          rotate_left
          · simp only [Act.put, List.setIfInBounds_toArray, List.set_cons_zero, List.set_cons_succ, i64_w, i32_w]
            rfl
          refine pure_ (i := 47) (N := some 115) (v := ?_) (a' := ?_) #[true, true, true, false, true, false, true, true, true, true, true, false, true, false, false, true, false, true, false, false, true, true, true, true, true, true, true, true, true, false, false, true, false, false, false, true, false, true, false, false, true, true, true, true, true, true, true, true, false, false, false, false, false, false, false, false, false, false] rfl rfl (any_of HT_.out (by kernel_rfl)) (fun _ _ _ h => h) (Or.inl ⟨by rfl, ?_⟩) ?_ ?_
          rotate_left
          · intro w'
            go_simp
            with_reducible rfl
          rotate_left
          · simp only [Act.put, List.setIfInBounds_toArray, List.set_cons_zero, List.set_cons_succ, i64_w, i32_w]
            rfl
          refine pure_ (i := 48) (N := some 116) (v := ?_) (a' := ?_) #[true, true, true, false, true, false, true, true, true, true, true, false, true, false, false, true, false, true, false, false, true, true, true, true, true, true, true, true, true, false, false, true, false, false, false, true, false, true, false, false, true, true, true, true, true, true, true, true, true, false, false, false, false, false, false, false, false, false] rfl rfl (any_of HT_.out (by kernel_rfl)) (fun _ _ _ h => h) (Or.inl ⟨by rfl, ?_⟩) ?_ ?_
          rotate_left
          · intro w'
            go_simp
            with_reducible rfl
          rotate_left
          · simp only [Act.put, List.setIfInBounds_toArray, List.set_cons_zero, List.set_cons_succ, i64_w, i32_w]
            rfl
          refine pure_ (i := 51) (N := some 119) (v := ?_) (a' := ?_) #[true, true, true, false, true, false, true, true, true, true, true, false, true, false, false, true, false, true, false, false, true, true, true, true, true, true, true, true, true, false, false, true, false, false, false, true, false, true, false, false, true, true, true, true, true, true, true, true, true, false, false, true, false, false, false, false, false, false] rfl rfl (any_of HT_.out (by kernel_rfl)) (fun _ _ _ h => h) (Or.inl ⟨by rfl, ?_⟩) ?_ ?_
          rotate_left
          · intro w'
            go_simp
            with_reducible rfl
          rotate_left
          · simp only [Act.put, List.setIfInBounds_toArray, List.set_cons_zero, List.set_cons_succ, i64_w, i32_w]
            rfl
          refine take_ (i := 3) (N := some 71) (v := ?_) (a' := ?_) #[true, true, true, true, true, false, true, true, true, true, true, false, true, false, false, true, false, true, false, false, true, true, true, true, true, true, true, true, true, false, false, true, false, false, false, true, false, true, false, false, true, true, true, true, true, true, true, true, true, false, false, true, false, false, false, false, false, false] rfl rfl (take_ofW HT_.out HW_.out (by kernel_rfl)) (fun _ _ _ h => h) (Or.inl ⟨by rfl, ?_⟩) hHeld ?_ ?_
          rotate_left
          · rintro w' ⟨s0, s1, s2, s3, s4, s5, s6⟩
            go_simp
            with_reducible rfl
          rotate_left
          · simp only [Act.put, List.setIfInBounds_toArray, List.set_cons_zero, List.set_cons_succ, i64_w, i32_w]
            rfl
          refine take_ (i := 5) (N := some 73) (v := ?_) (a' := ?_) #[true, true, true, true, true, true, true, true, true, true, true, false, true, false, false, true, false, true, false, false, true, true, true, true, true, true, true, true, true, false, false, true, false, false, false, true, false, true, false, false, true, true, true, true, true, true, true, true, true, false, false, true, false, false, false, false, false, false] rfl rfl (take_ofW HT_.out HW_.out (by kernel_rfl)) (fun _ _ _ h => h) (Or.inl ⟨by rfl, ?_⟩) hHeld ?_ ?_
          rotate_left
          · rintro w' ⟨s0, s1, s2, s3, s4, s5, s6⟩
            go_simp
            with_reducible rfl
          rotate_left
          · simp only [Act.put, List.setIfInBounds_toArray, List.set_cons_zero, List.set_cons_succ, i64_w, i32_w]
            rfl
          refine take_ (i := 11) (N := some 79) (v := ?_) (a' := ?_) #[true, true, true, true, true, true, true, true, true, true, true, true, true, false, false, true, false, true, false, false, true, true, true, true, true, true, true, true, true, false, false, true, false, false, false, true, false, true, false, false, true, true, true, true, true, true, true, true, true, false, false, true, false, false, false, false, false, false] rfl rfl (take_ofW HT_.out HW_.out (by kernel_rfl)) (fun _ _ _ h => h) (Or.inl ⟨by rfl, ?_⟩) hHeld ?_ ?_
          rotate_left
          · rintro w' ⟨s0, s1, s2, s3, s4, s5, s6⟩
            go_simp
            with_reducible rfl
          rotate_left
          · simp only [Act.put, List.setIfInBounds_toArray, List.set_cons_zero, List.set_cons_succ, i64_w, i32_w]
            rfl
          refine take_ (i := 13) (N := some 81) (v := ?_) (a' := ?_) #[true, true, true, true, true, true, true, true, true, true, true, true, true, true, false, true, false, true, false, false, true, true, true, true, true, true, true, true, true, false, false, true, false, false, false, true, false, true, false, false, true, true, true, true, true, true, true, true, true, false, false, true, false, false, false, false, false, false] rfl rfl (take_ofW HT_.out HW_.out (by kernel_rfl)) (fun _ _ _ h => h) (Or.inl ⟨by rfl, ?_⟩) hHeld ?_ ?_
          rotate_left
          · rintro w' ⟨s0, s1, s2, s3, s4, s5, s6⟩
            go_simp
            with_reducible rfl
          rotate_left
          · simp only [Act.put, List.setIfInBounds_toArray, List.set_cons_zero, List.set_cons_succ, i64_w, i32_w]
            rfl
          refine take_ (i := 16) (N := some 84) (v := ?_) (a' := ?_) #[true, true, true, true, true, true, true, true, true, true, true, true, true, true, false, true, true, true, false, false, true, true, true, true, true, true, true, true, true, false, false, true, false, false, false, true, false, true, false, false, true, true, true, true, true, true, true, true, true, false, false, true, false, false, false, false, false, false] rfl rfl (take_ofW HT_.out HW_.out (by kernel_rfl)) (fun _ _ _ h => h) (Or.inl ⟨by rfl, ?_⟩) hHeld ?_ ?_
          rotate_left
          · rintro w' ⟨s0, s1, s2, s3, s4, s5, s6⟩
            go_simp
            with_reducible rfl
          rotate_left
          · simp only [Act.put, List.setIfInBounds_toArray, List.set_cons_zero, List.set_cons_succ, i64_w, i32_w]
            rfl
          refine take_ (i := 18) (N := some 86) (v := ?_) (a' := ?_) #[true, true, true, true, true, true, true, true, true, true, true, true, true, true, false, true, true, true, true, false, true, true, true, true, true, true, true, true, true, false, false, true, false, false, false, true, false, true, false, false, true, true, true, true, true, true, true, true, true, false, false, true, false, false, false, false, false, false] rfl rfl (take_ofW HT_.out HW_.out (by kernel_rfl)) (fun _ _ _ h => h) (Or.inl ⟨by rfl, ?_⟩) hHeld ?_ ?_
          rotate_left
          · rintro w' ⟨s0, s1, s2, s3, s4, s5, s6⟩
            go_simp
            with_reducible rfl
          rotate_left
          · simp only [Act.put, List.setIfInBounds_toArray, List.set_cons_zero, List.set_cons_succ, i64_w, i32_w]
            rfl
          refine pure_ (i := 19) (N := some 87) (v := ?_) (a' := ?_) #[true, true, true, true, true, true, true, true, true, true, true, true, true, true, false, true, true, true, true, true, true, true, true, true, true, true, true, true, true, false, false, true, false, false, false, true, false, true, false, false, true, true, true, true, true, true, true, true, true, false, false, true, false, false, false, false, false, false] rfl rfl (any_of HT_.out (by kernel_rfl)) (fun _ _ _ h => h) (Or.inl ⟨by rfl, ?_⟩) ?_ ?_
          rotate_left
          · intro w'
            go_simp
            with_reducible rfl
          rotate_left
          · simp only [Act.put, List.setIfInBounds_toArray, List.set_cons_zero, List.set_cons_succ, i64_w, i32_w]
            rfl
          refine take_ (i := 29) (N := some 97) (v := ?_) (a' := ?_) #[true, true, true, true, true, true, true, true, true, true, true, true, true, true, false, true, true, true, true, true, true, true, true, true, true, true, true, true, true, true, false, true, false, false, false, true, false, true, false, false, true, true, true, true, true, true, true, true, true, false, false, true, false, false, false, false, false, false] rfl rfl (take_ofW HT_.out HW_.out (by kernel_rfl)) (fun _ _ _ h => h) (Or.inl ⟨by rfl, ?_⟩) hHeld ?_ ?_
          rotate_left
          · rintro w' ⟨s0, s1, s2, s3, s4, s5, s6⟩
            go_simp
            with_reducible rfl
          rotate_left
          · simp only [Act.put, List.setIfInBounds_toArray, List.set_cons_zero, List.set_cons_succ, i64_w, i32_w]
            rfl
          refine pure_ (i := 30) (N := some 98) (v := ?_) (a' := ?_) #[true, true, true, true, true, true, true, true, true, true, true, true, true, true, false, true, true, true, true, true, true, true, true, true, true, true, true, true, true, true, true, true, false, false, false, true, false, true, false, false, true, true, true, true, true, true, true, true, true, false, false, true, false, false, false, false, false, false] rfl rfl (any_of HT_.out (by kernel_rfl)) (fun _ _ _ h => h) (Or.inl ⟨by rfl, ?_⟩) ?_ ?_
          rotate_left
          · intro w'
            go_simp
            with_reducible rfl
          rotate_left
          · simp only [Act.put, List.setIfInBounds_toArray, List.set_cons_zero, List.set_cons_succ, i64_w, i32_w]
            rfl
          refine take_ (i := 32) (N := some 100) (v := ?_) (a' := ?_) #[true, true, true, true, true, true, true, true, true, true, true, true, true, true, false, true, true, true, true, true, true, true, true, true, true, true, true, true, true, true, true, true, true, false, false, true, false, true, false, false, true, true, true, true, true, true, true, true, true, false, false, true, false, false, false, false, false, false] rfl rfl (take_ofW HT_.out HW_.out (by kernel_rfl)) (fun _ _ _ h => h) (Or.inl ⟨by rfl, ?_⟩) hHeld ?_ ?_
          rotate_left
          · rintro w' ⟨s0, s1, s2, s3, s4, s5, s6⟩
            go_simp
            with_reducible rfl
          rotate_left
          · simp only [Act.put, List.setIfInBounds_toArray, List.set_cons_zero, List.set_cons_succ, i64_w, i32_w]
            rfl
          refine pure_ (i := 33) (N := some 101) (v := ?_) (a' := ?_) #[true, true, true, true, true, true, true, true, true, true, true, true, true, true, false, true, true, true, true, true, true, true, true, true, true, true, true, true, true, true, true, true, true, true, false, true, false, true, false, false, true, true, true, true, true, true, true, true, true, false, false, true, false, false, false, false, false, false] rfl rfl (any_of HT_.out (by kernel_rfl)) (fun _ _ _ h => h) (Or.inl ⟨by rfl, ?_⟩) ?_ ?_
          rotate_left
          · intro w'
            go_simp
            with_reducible rfl
          rotate_left
          · simp only [Act.put, List.setIfInBounds_toArray, List.set_cons_zero, List.set_cons_succ, i64_w, i32_w]
            rfl
          refine take_ (i := 36) (N := some 104) (v := ?_) (a' := ?_) #[true, true, true, true, true, true, true, true, true, true, true, true, true, true, false, true, true, true, true, true, true, true, true, true, true, true, true, true, true, true, true, true, true, true, false, true, true, true, false, false, true, true, true, true, true, true, true, true, true, false, false, true, false, false, false, false, false, false] rfl rfl (take_ofW HT_.out HW_.out (by kernel_rfl)) (fun _ _ _ h => h) (Or.inl ⟨by rfl, ?_⟩) hHeld ?_ ?_
          rotate_left
          · rintro w' ⟨s0, s1, s2, s3, s4, s5, s6⟩
            go_simp
            with_reducible rfl
          rotate_left
          · simp only [Act.put, List.setIfInBounds_toArray, List.set_cons_zero, List.set_cons_succ, i64_w, i32_w]
            rfl
          refine take_ (i := 38) (N := some 106) (v := ?_) (a' := ?_) #[true, true, true, true, true, true, true, true, true, true, true, true, true, true, false, true, true, true, true, true, true, true, true, true, true, true, true, true, true, true, true, true, true, true, false, true, true, true, true, false, true, true, true, true, true, true, true, true, true, false, false, true, false, false, false, false, false, false] rfl rfl (take_ofW HT_.out HW_.out (by kernel_rfl)) (fun _ _ _ h => h) (Or.inl ⟨by rfl, ?_⟩) hHeld ?_ ?_
          rotate_left
          · rintro w' ⟨s0, s1, s2, s3, s4, s5, s6⟩
            go_simp
            with_reducible rfl
          rotate_left
          · simp only [Act.put, List.setIfInBounds_toArray, List.set_cons_zero, List.set_cons_succ, i64_w, i32_w]
            rfl
          refine pure_ (i := 39) (N := some 107) (v := ?_) (a' := ?_) #[true, true, true, true, true, true, true, true, true, true, true, true, true, true, false, true, true, true, true, true, true, true, true, true, true, true, true, true, true, true, true, true, true, true, false, true, true, true, true, true, true, true, true, true, true, true, true, true, true, false, false, true, false, false, false, false, false, false] rfl rfl (any_of HT_.out (by kernel_rfl)) (fun _ _ _ h => h) (Or.inl ⟨by rfl, ?_⟩) ?_ ?_
          rotate_left
          · intro w'
            go_simp
            with_reducible rfl
          rotate_left
          · simp only [Act.put, List.setIfInBounds_toArray, List.set_cons_zero, List.set_cons_succ, i64_w, i32_w]
            rfl
          refine take_ (i := 49) (N := some 117) (v := ?_) (a' := ?_) #[true, true, true, true, true, true, true, true, true, true, true, true, true, true, false, true, true, true, true, true, true, true, true, true, true, true, true, true, true, true, true, true, true, true, false, true, true, true, true, true, true, true, true, true, true, true, true, true, true, true, false, true, false, false, false, false, false, false] rfl rfl (take_ofW HT_.out HW_.out (by kernel_rfl)) (fun _ _ _ h => h) (Or.inl ⟨by rfl, ?_⟩) hHeld ?_ ?_
          rotate_left
          · rintro w' ⟨s0, s1, s2, s3, s4, s5, s6⟩
            go_simp
            with_reducible rfl
          rotate_left
          · simp only [Act.put, List.setIfInBounds_toArray, List.set_cons_zero, List.set_cons_succ, i64_w, i32_w]
            rfl
          refine pure_ (i := 50) (N := some 118) (v := ?_) (a' := ?_) #[true, true, true, true, true, true, true, true, true, true, true, true, true, true, false, true, true, true, true, true, true, true, true, true, true, true, true, true, true, true, true, true, true, true, false, true, true, true, true, true, true, true, true, true, true, true, true, true, true, true, true, true, false, false, false, false, false, false] rfl rfl (any_of HT_.out (by kernel_rfl)) (fun _ _ _ h => h) (Or.inl ⟨by rfl, ?_⟩) ?_ ?_
          rotate_left
          · intro w'
            go_simp
            with_reducible rfl
          rotate_left
          · simp only [Act.put, List.setIfInBounds_toArray, List.set_cons_zero, List.set_cons_succ, i64_w, i32_w]
            rfl
          refine take_ (i := 52) (N := some 120) (v := ?_) (a' := ?_) #[true, true, true, true, true, true, true, true, true, true, true, true, true, true, false, true, true, true, true, true, true, true, true, true, true, true, true, true, true, true, true, true, true, true, false, true, true, true, true, true, true, true, true, true, true, true, true, true, true, true, true, true, true, false, false, false, false, false] rfl rfl (take_ofW HT_.out HW_.out (by kernel_rfl)) (fun _ _ _ h => h) (Or.inl ⟨by rfl, ?_⟩) hHeld ?_ ?_
          rotate_left
          · rintro w' ⟨s0, s1, s2, s3, s4, s5, s6⟩
            go_simp
            with_reducible rfl
          rotate_left
          · simp only [Act.put, List.setIfInBounds_toArray, List.set_cons_zero, List.set_cons_succ, i64_w, i32_w]
            rfl
          refine pure_ (i := 53) (N := some 121) (v := ?_) (a' := ?_) #[true, true, true, true, true, true, true, true, true, true, true, true, true, true, false, true, true, true, true, true, true, true, true, true, true, true, true, true, true, true, true, true, true, true, false, true, true, true, true, true, true, true, true, true, true, true, true, true, true, true, true, true, true, true, false, false, false, false] rfl rfl (any_of HT_.out (by kernel_rfl)) (fun _ _ _ h => h) (Or.inl ⟨by rfl, ?_⟩) ?_ ?_
          rotate_left
          · intro w'
            go_simp
            with_reducible rfl
          rotate_left
          · simp only [Act.put, List.setIfInBounds_toArray, List.set_cons_zero, List.set_cons_succ, i64_w, i32_w]
            rfl
          refine one_ (i := 14) (N := some 82) #[true, true, true, true, true, true, true, true, true, true, true, true, true, true, true, true, true, true, true, true, true, true, true, true, true, true, true, true, true, true, true, true, true, true, false, true, true, true, true, true, true, true, true, true, true, true, true, true, true, true, true, true, true, true, false, false, false, false] rfl rfl (one_of HT_.out (by kernel_rfl)) (by decide) (fun K hK => ?_)
          refine goes_ Try.func35 (by kernel_rfl) rfl #[.slice A0_2 l0_2.length c0_2, .int .i64 a0_0, .int .i64 a1, .int .i64 a2, .int .i64 a3, .int .i64 a4, .int .i64 a5_0, .int .i64 a5_1] (by rfl) rfl rfl (by (try simp only [List.map_toArray, List.map_cons, List.map_nil]); first | done | rfl | (simp only [List.length_drop, List.length_take]; rfl)) ?_
          with_reducible refine (cutroomref08_component.calls kj6 _ _ l0_2 a0_0 a1 a2 a3 a4 a5_0 a5_1 t249 _ ?side1 ?side2 A96.out).mono ?_
          (case side1 => repeat (first | exact (Kd.C_below HR0_2.out HB.out) | (with_reducible refine Kd.C_alloc ?_ _) | (with_reducible refine Kd.C_drewN ?_ _) | (with_reducible refine Kd.C_drew ?_)))
          (case side2 => exact HC0_2.out)
          rintro e w104 ⟨v250, rfl, ho0, hb⟩
          refine ⟨_, rfl, ?_⟩
          have n0_ := Aside0.mk (Kd.R_lower ho0 (below_size (by repeat (first | (with_reducible first | exact HB.out | apply below_alloc | apply pw_below_drewN | apply below_drew1 | refine below_set ?_ GE244.out | refine below_set ?_ GE245.out | refine below_set ?_ GE246.out) | exact HB.out))))
          have n1_ := Aside0.mk (blk_below (g := gb244) (o := .cells #[.int .i64 a0_0, .int .i64 a0_1, .slice A0_2 l0_2.length c0_2, .slice A0_3 l0_3.length c0_3, .slice A0_4 l0_4.length c0_4] 24 (0, 0)) (by (with_reducible repeat (first | refine blk_drewN ?_ _ | refine blk_drew ?_ | refine blk_alloc ?_ _)); exact BK244.out) hb)
          have n2_ := Aside0.mk (blk_below (g := gb245) (o := .cells #[.int .i64 a5_0, .int .i64 a5_1] 32 (0, 0)) (by (with_reducible repeat (first | refine blk_drewN ?_ _ | refine blk_drew ?_ | refine blk_alloc ?_ _)); exact BK245.out) hb)
          have n3_ := Aside0.mk (blk_below (g := gb246) (o := .cells #[.int .i64 0, .int .i64 0, .slice none 0 0, .slice none 0 0, .slice none 0 0] 24 (0, 0)) (by (with_reducible repeat (first | refine blk_drewN ?_ _ | refine blk_drew ?_ | refine blk_alloc ?_ _)); exact BK246.out) hb)
          have n4_ := Aside0.mk (below_step (by repeat (first | (with_reducible first | exact HB.out | apply below_alloc | apply pw_below_drewN | apply below_drew1 | refine below_set ?_ GE244.out | refine below_set ?_ GE245.out | refine below_set ?_ GE246.out) | exact HB.out)) hb)
          clear BK244
          clear BK245
          clear BK246
          clear HB
          have HO251 := n0_
          have BK244 := n1_
          have BK245 := n2_
          have BK246 := n3_
          have HB := n4_
          clear n0_ n1_ n2_ n3_ n4_
          (try clear hb)
          (try clear hb2)
          (try clear hk)
          (try clear hi)
          (try clear ho0)
          refine hK.out _ _ ⟨(blk_cell BK244.out 0).trans rfl, (blk_cell BK244.out 1).trans rfl, (blk_cell BK244.out 2).trans rfl, (blk_cell BK244.out 3).trans rfl, (blk_cell BK244.out 4).trans rfl, (blk_cell BK245.out 0).trans rfl, (blk_cell BK245.out 1).trans rfl⟩ (fun hHeld => ?_)
          clear hK K
          refine norm_ (a' := ?_) ?_ ?_
          rotate_left
          · show Act.put _ (some 82) _ = _
            simp only [Act.put, List.setIfInBounds_toArray, List.set_cons_zero, List.set_cons_succ, i64_w, i32_w]
            rfl
          refine one_ (i := 34) (N := some 102) #[true, true, true, true, true, true, true, true, true, true, true, true, true, true, true, true, true, true, true, true, true, true, true, true, true, true, true, true, true, true, true, true, true, true, true, true, true, true, true, true, true, true, true, true, true, true, true, true, true, true, true, true, true, true, false, false, false, false] rfl rfl (one_of HT_.out (by kernel_rfl)) (by decide) (fun K hK => ?_)
          refine goes_ Try.func35 (by kernel_rfl) rfl #[.slice A0_3 l0_3.length c0_3, .int .i64 (wrap64 (Int.tdiv a0_0 2)), .int .i64 (wrap64 (Int.tdiv a1 2)), .int .i64 (wrap64 (Int.tdiv a2 2)), .int .i64 (wrap64 (Int.tdiv a3 2)), .int .i64 (wrap64 (Int.tdiv a4 2)), .int .i64 (wrap64 (Int.tdiv a5_0 2)), .int .i64 (wrap64 (Int.tdiv a5_1 2))] (by rfl) rfl rfl (by (try simp only [List.map_toArray, List.map_cons, List.map_nil]); first | done | rfl | (simp only [List.length_drop, List.length_take]; rfl)) ?_
          with_reducible refine (cutroomref08_component.calls kj6 _ _ l0_3 (wrap64 (Int.tdiv a0_0 2)) (wrap64 (Int.tdiv a1 2)) (wrap64 (Int.tdiv a2 2)) (wrap64 (Int.tdiv a3 2)) (wrap64 (Int.tdiv a4 2)) (wrap64 (Int.tdiv a5_0 2)) (wrap64 (Int.tdiv a5_1 2)) t252 _ ?side1 ?side2 A97.out).mono ?_
          (case side1 => repeat (first | exact (Kd.C_below HR0_3.out HB.out) | (with_reducible refine Kd.C_alloc ?_ _) | (with_reducible refine Kd.C_drewN ?_ _) | (with_reducible refine Kd.C_drew ?_)))
          (case side2 => exact HC0_3.out)
          rintro e w105 ⟨v253, rfl, ho0, hb⟩
          refine ⟨_, rfl, ?_⟩
          have n0_ := Aside0.mk (Kd.R_elder' (by (with_reducible repeat (first | apply Kd.R_alloc | apply Kd.R_drewN | apply Kd.R_drew)); exact HO251.out) (Kd.R_base ho0) hb)
          have n1_ := Aside0.mk (Kd.R_lower (Kd.R_new' ho0 (Kd.R_lt (by (with_reducible repeat (first | apply Kd.R_alloc | apply Kd.R_drewN | apply Kd.R_drew)); exact HO251.out))) (below_size (by repeat (first | (with_reducible first | exact HB.out | apply below_alloc | apply pw_below_drewN | apply below_drew1 | refine below_set ?_ GE244.out | refine below_set ?_ GE245.out | refine below_set ?_ GE246.out) | exact HB.out))))
          have n2_ := Aside0.mk (blk_below (g := gb244) (o := .cells #[.int .i64 a0_0, .int .i64 a0_1, .slice A0_2 l0_2.length c0_2, .slice A0_3 l0_3.length c0_3, .slice A0_4 l0_4.length c0_4] 24 (0, 0)) (by (with_reducible repeat (first | refine blk_drewN ?_ _ | refine blk_drew ?_ | refine blk_alloc ?_ _)); exact BK244.out) hb)
          have n3_ := Aside0.mk (blk_below (g := gb245) (o := .cells #[.int .i64 a5_0, .int .i64 a5_1] 32 (0, 0)) (by (with_reducible repeat (first | refine blk_drewN ?_ _ | refine blk_drew ?_ | refine blk_alloc ?_ _)); exact BK245.out) hb)
          have n4_ := Aside0.mk (blk_below (g := gb246) (o := .cells #[.int .i64 0, .int .i64 0, .slice none 0 0, .slice none 0 0, .slice none 0 0] 24 (0, 0)) (by (with_reducible repeat (first | refine blk_drewN ?_ _ | refine blk_drew ?_ | refine blk_alloc ?_ _)); exact BK246.out) hb)
          have n5_ := Aside0.mk (below_step (by repeat (first | (with_reducible first | exact HB.out | apply below_alloc | apply pw_below_drewN | apply below_drew1 | refine below_set ?_ GE244.out | refine below_set ?_ GE245.out | refine below_set ?_ GE246.out) | exact HB.out)) hb)
          clear HO251
          clear BK244
          clear BK245
          clear BK246
          clear HB
          have HO251 := n0_
          have HO254 := n1_
          have BK244 := n2_
          have BK245 := n3_
          have BK246 := n4_
          have HB := n5_
          clear n0_ n1_ n2_ n3_ n4_ n5_
          (try clear hb)
          (try clear hb2)
          (try clear hk)
          (try clear hi)
          (try clear ho0)
          refine hK.out _ _ ⟨(blk_cell BK244.out 0).trans rfl, (blk_cell BK244.out 1).trans rfl, (blk_cell BK244.out 2).trans rfl, (blk_cell BK244.out 3).trans rfl, (blk_cell BK244.out 4).trans rfl, (blk_cell BK245.out 0).trans rfl, (blk_cell BK245.out 1).trans rfl⟩ (fun hHeld => ?_)
          clear hK K
          refine norm_ (a' := ?_) ?_ ?_
          rotate_left
          · show Act.put _ (some 102) _ = _
            simp only [Act.put, List.setIfInBounds_toArray, List.set_cons_zero, List.set_cons_succ, i64_w, i32_w]
            rfl
          refine one_ (i := 54) (N := some 122) #[true, true, true, true, true, true, true, true, true, true, true, true, true, true, true, true, true, true, true, true, true, true, true, true, true, true, true, true, true, true, true, true, true, true, true, true, true, true, true, true, true, true, true, true, true, true, true, true, true, true, true, true, true, true, true, false, false, false] rfl rfl (one_of HT_.out (by kernel_rfl)) (by decide) (fun K hK => ?_)
          refine goes_ Try.func35 (by kernel_rfl) rfl #[.slice A0_4 l0_4.length c0_4, .int .i64 (wrap64 (Int.tdiv a0_0 2)), .int .i64 (wrap64 (Int.tdiv a1 2)), .int .i64 (wrap64 (Int.tdiv a2 2)), .int .i64 (wrap64 (Int.tdiv a3 2)), .int .i64 (wrap64 (Int.tdiv a4 2)), .int .i64 (wrap64 (Int.tdiv a5_0 2)), .int .i64 (wrap64 (Int.tdiv a5_1 2))] (by rfl) rfl rfl (by (try simp only [List.map_toArray, List.map_cons, List.map_nil]); first | done | rfl | (simp only [List.length_drop, List.length_take]; rfl)) ?_
          with_reducible refine (cutroomref08_component.calls kj6 _ _ l0_4 (wrap64 (Int.tdiv a0_0 2)) (wrap64 (Int.tdiv a1 2)) (wrap64 (Int.tdiv a2 2)) (wrap64 (Int.tdiv a3 2)) (wrap64 (Int.tdiv a4 2)) (wrap64 (Int.tdiv a5_0 2)) (wrap64 (Int.tdiv a5_1 2)) t255 _ ?side1 ?side2 A98.out).mono ?_
          (case side1 => repeat (first | exact (Kd.C_below HR0_4.out HB.out) | (with_reducible refine Kd.C_alloc ?_ _) | (with_reducible refine Kd.C_drewN ?_ _) | (with_reducible refine Kd.C_drew ?_)))
          (case side2 => exact HC0_4.out)
          rintro e w106 ⟨v256, rfl, ho0, hb⟩
          refine ⟨_, rfl, ?_⟩
          have n0_ := Aside0.mk (Kd.R_elder' (by (with_reducible repeat (first | apply Kd.R_alloc | apply Kd.R_drewN | apply Kd.R_drew)); exact HO251.out) (Kd.R_base ho0) hb)
          have n1_ := Aside0.mk (Kd.R_elder' (by (with_reducible repeat (first | apply Kd.R_alloc | apply Kd.R_drewN | apply Kd.R_drew)); exact HO254.out) (Kd.R_base ho0) hb)
          have n2_ := Aside0.mk (Kd.R_lower (Kd.R_new' (Kd.R_new' ho0 (Kd.R_lt (by (with_reducible repeat (first | apply Kd.R_alloc | apply Kd.R_drewN | apply Kd.R_drew)); exact HO251.out))) (Kd.R_lt (by (with_reducible repeat (first | apply Kd.R_alloc | apply Kd.R_drewN | apply Kd.R_drew)); exact HO254.out))) (below_size (by repeat (first | (with_reducible first | exact HB.out | apply below_alloc | apply pw_below_drewN | apply below_drew1 | refine below_set ?_ GE244.out | refine below_set ?_ GE245.out | refine below_set ?_ GE246.out) | exact HB.out))))
          have n3_ := Aside0.mk (blk_below (g := gb244) (o := .cells #[.int .i64 a0_0, .int .i64 a0_1, .slice A0_2 l0_2.length c0_2, .slice A0_3 l0_3.length c0_3, .slice A0_4 l0_4.length c0_4] 24 (0, 0)) (by (with_reducible repeat (first | refine blk_drewN ?_ _ | refine blk_drew ?_ | refine blk_alloc ?_ _)); exact BK244.out) hb)
          have n4_ := Aside0.mk (blk_below (g := gb245) (o := .cells #[.int .i64 a5_0, .int .i64 a5_1] 32 (0, 0)) (by (with_reducible repeat (first | refine blk_drewN ?_ _ | refine blk_drew ?_ | refine blk_alloc ?_ _)); exact BK245.out) hb)
          have n5_ := Aside0.mk (blk_below (g := gb246) (o := .cells #[.int .i64 0, .int .i64 0, .slice none 0 0, .slice none 0 0, .slice none 0 0] 24 (0, 0)) (by (with_reducible repeat (first | refine blk_drewN ?_ _ | refine blk_drew ?_ | refine blk_alloc ?_ _)); exact BK246.out) hb)
          have n6_ := Aside0.mk (below_step (by repeat (first | (with_reducible first | exact HB.out | apply below_alloc | apply pw_below_drewN | apply below_drew1 | refine below_set ?_ GE244.out | refine below_set ?_ GE245.out | refine below_set ?_ GE246.out) | exact HB.out)) hb)
          clear HO251
          clear HO254
          clear BK244
          clear BK245
          clear BK246
          clear HB
          have HO251 := n0_
          have HO254 := n1_
          have HO257 := n2_
          have BK244 := n3_
          have BK245 := n4_
          have BK246 := n5_
          have HB := n6_
          clear n0_ n1_ n2_ n3_ n4_ n5_ n6_
          (try clear hb)
          (try clear hb2)
          (try clear hk)
          (try clear hi)
          (try clear ho0)
          obtain ⟨Ao107, co107, eo107⟩ := Kd.R_slice HO257.out
          (first | subst eo107 | (injection eo107 with f1_ f2_ f3_; have f4_ := f1_.symm; have f5_ := f3_.symm; clear f1_ f2_ f3_; subst f4_; subst f5_))
          obtain ⟨Ao108, co108, eo108⟩ := Kd.R_slice HO254.out
          (first | subst eo108 | (injection eo108 with f1_ f2_ f3_; have f4_ := f1_.symm; have f5_ := f3_.symm; clear f1_ f2_ f3_; subst f4_; subst f5_))
          obtain ⟨Ao109, co109, eo109⟩ := Kd.R_slice HO251.out
          (first | subst eo109 | (injection eo109 with f1_ f2_ f3_; have f4_ := f1_.symm; have f5_ := f3_.symm; clear f1_ f2_ f3_; subst f4_; subst f5_))
          refine hK.out _ _ ⟨(blk_cell BK244.out 0).trans rfl, (blk_cell BK244.out 1).trans rfl, (blk_cell BK244.out 2).trans rfl, (blk_cell BK244.out 3).trans rfl, (blk_cell BK244.out 4).trans rfl, (blk_cell BK245.out 0).trans rfl, (blk_cell BK245.out 1).trans rfl⟩ (fun hHeld => ?_)
          clear hK K
          refine norm_ (a' := ?_) ?_ ?_
          rotate_left
          · show Act.put _ (some 122) _ = _
            simp only [Act.put, List.setIfInBounds_toArray, List.set_cons_zero, List.set_cons_succ, i64_w, i32_w]
            rfl
          refine pure_ (i := 55) (N := some 123) (v := ?_) (a' := ?_) #[true, true, true, true, true, true, true, true, true, true, true, true, true, true, true, true, true, true, true, true, true, true, true, true, true, true, true, true, true, true, true, true, true, true, true, true, true, true, true, true, true, true, true, true, true, true, true, true, true, true, true, true, true, true, true, true, false, false] rfl rfl (any_of HT_.out (by kernel_rfl)) (fun _ _ _ h => h) (Or.inl ⟨by rfl, ?_⟩) ?_ ?_
          rotate_left
          · intro w'
            go_simp
            with_reducible rfl
          rotate_left
          · simp only [Act.put, List.setIfInBounds_toArray, List.set_cons_zero, List.set_cons_succ, i64_w, i32_w]
            rfl
          refine one_ (i := 56) (N := none) #[true, true, true, true, true, true, true, true, true, true, true, true, true, true, true, true, true, true, true, true, true, true, true, true, true, true, true, true, true, true, true, true, true, true, true, true, true, true, true, true, true, true, true, true, true, true, true, true, true, true, true, true, true, true, true, true, true, false] rfl rfl (one_of HT_.out (by kernel_rfl)) (by decide) (fun K hK => ?_)
          have hs110 : w106.cell? ⟨gb246, 0, none⟩ = some (.int .i64 0) := (blk_cell BK246.out 0).trans rfl
          have hfs110 := blk_frozen BK246.out 0
          have hns110_0 := NB244_246.out
          have hns110_1 := NB245_246.out
          have hms110_0 := NB246_244.out
          have hms110_1 := NB246_245.out
          have hs111 : w106.cell? ⟨gb246, 1, none⟩ = some (.int .i64 0) := (blk_cell BK246.out 1).trans rfl
          have hfs111 := blk_frozen BK246.out 1
          have hns111_0 := NB244_246.out
          have hns111_1 := NB245_246.out
          have hms111_0 := NB246_244.out
          have hms111_1 := NB246_245.out
          have hs112 : w106.cell? ⟨gb246, 2, none⟩ = some (.slice none 0 0) := (blk_cell BK246.out 2).trans rfl
          have hfs112 := blk_frozen BK246.out 2
          have hns112_0 := NB244_246.out
          have hns112_1 := NB245_246.out
          have hms112_0 := NB246_244.out
          have hms112_1 := NB246_245.out
          have hs113 : w106.cell? ⟨gb246, 3, none⟩ = some (.slice none 0 0) := (blk_cell BK246.out 3).trans rfl
          have hfs113 := blk_frozen BK246.out 3
          have hns113_0 := NB244_246.out
          have hns113_1 := NB245_246.out
          have hms113_0 := NB246_244.out
          have hms113_1 := NB246_245.out
          have hs114 : w106.cell? ⟨gb246, 4, none⟩ = some (.slice none 0 0) := (blk_cell BK246.out 4).trans rfl
          have hfs114 := blk_frozen BK246.out 4
          have hns114_0 := NB244_246.out
          have hns114_1 := NB245_246.out
          have hms114_0 := NB246_244.out
          have hms114_1 := NB246_245.out
          refine skip_ (w1 := ?_) (by rfl) rfl ?_ ?_
          rotate_left
          · go_simp
            rfl
          refine hK.out _ _ ⟨((cell_far (p := ⟨gb246, _, none⟩) NB244_246.out _).trans (((cell_far (p := ⟨gb246, _, none⟩) NB244_246.out _).trans (((cell_far (p := ⟨gb246, _, none⟩) NB244_246.out _).trans (((cell_far (p := ⟨gb246, _, none⟩) NB244_246.out _).trans (((cell_far (p := ⟨gb246, _, none⟩) NB244_246.out _).trans (hHeld.1)))))))))), ((cell_far (p := ⟨gb246, _, none⟩) NB244_246.out _).trans (((cell_far (p := ⟨gb246, _, none⟩) NB244_246.out _).trans (((cell_far (p := ⟨gb246, _, none⟩) NB244_246.out _).trans (((cell_far (p := ⟨gb246, _, none⟩) NB244_246.out _).trans (((cell_far (p := ⟨gb246, _, none⟩) NB244_246.out _).trans (hHeld.2.1)))))))))), ((cell_far (p := ⟨gb246, _, none⟩) NB244_246.out _).trans (((cell_far (p := ⟨gb246, _, none⟩) NB244_246.out _).trans (((cell_far (p := ⟨gb246, _, none⟩) NB244_246.out _).trans (((cell_far (p := ⟨gb246, _, none⟩) NB244_246.out _).trans (((cell_far (p := ⟨gb246, _, none⟩) NB244_246.out _).trans (hHeld.2.2.1)))))))))), ((cell_far (p := ⟨gb246, _, none⟩) NB244_246.out _).trans (((cell_far (p := ⟨gb246, _, none⟩) NB244_246.out _).trans (((cell_far (p := ⟨gb246, _, none⟩) NB244_246.out _).trans (((cell_far (p := ⟨gb246, _, none⟩) NB244_246.out _).trans (((cell_far (p := ⟨gb246, _, none⟩) NB244_246.out _).trans (hHeld.2.2.2.1)))))))))), ((cell_far (p := ⟨gb246, _, none⟩) NB244_246.out _).trans (((cell_far (p := ⟨gb246, _, none⟩) NB244_246.out _).trans (((cell_far (p := ⟨gb246, _, none⟩) NB244_246.out _).trans (((cell_far (p := ⟨gb246, _, none⟩) NB244_246.out _).trans (((cell_far (p := ⟨gb246, _, none⟩) NB244_246.out _).trans (hHeld.2.2.2.2.1)))))))))), ((cell_far (p := ⟨gb246, _, none⟩) NB245_246.out _).trans (((cell_far (p := ⟨gb246, _, none⟩) NB245_246.out _).trans (((cell_far (p := ⟨gb246, _, none⟩) NB245_246.out _).trans (((cell_far (p := ⟨gb246, _, none⟩) NB245_246.out _).trans (((cell_far (p := ⟨gb246, _, none⟩) NB245_246.out _).trans (hHeld.2.2.2.2.2.1)))))))))), ((cell_far (p := ⟨gb246, _, none⟩) NB245_246.out _).trans (((cell_far (p := ⟨gb246, _, none⟩) NB245_246.out _).trans (((cell_far (p := ⟨gb246, _, none⟩) NB245_246.out _).trans (((cell_far (p := ⟨gb246, _, none⟩) NB245_246.out _).trans (((cell_far (p := ⟨gb246, _, none⟩) NB245_246.out _).trans (hHeld.2.2.2.2.2.2))))))))))⟩ (fun hHeld => ?_)
          clear hK K
          refine pure_ (i := 57) (N := some 13) (v := ?_) (a' := ?_) #[true, true, true, true, true, true, true, true, true, true, true, true, true, true, true, true, true, true, true, true, true, true, true, true, true, true, true, true, true, true, true, true, true, true, true, true, true, true, true, true, true, true, true, true, true, true, true, true, true, true, true, true, true, true, true, true, true, true] rfl rfl (any_of HT_.out (by kernel_rfl)) (fun _ _ _ h => h) (Or.inl ⟨by rfl, ?_⟩) ?_ ?_
          rotate_left
          · intro w'
            go_simp
            with_reducible rfl
          rotate_left
          · simp only [Act.put, List.setIfInBounds_toArray, List.set_cons_zero, List.set_cons_succ, i64_w, i32_w]
            rfl
          refine done_ (done_of HT_.out (by kernel_rfl)) ?_
          try go_wp2
          refine bodyPost_ret (results_ct rfl _ _ gb246 24 #[.int .i64 a3, .int .i64 a4, .slice Ao109 t249.length co109, .slice Ao108 t252.length co108, .slice Ao107 t255.length co107] (0, 0) _ rfl (by (with_reducible repeat (first | refine blk_drewN ?_ _ | refine blk_drew ?_ | refine blk_alloc ?_ _)); refine blk_put (cs := #[.int .i64 a3, .int .i64 a4, .slice Ao109 t249.length co109, .slice Ao108 t252.length co108, .slice none 0 0]) ?_ 4 _ rfl; (with_reducible repeat (first | refine blk_drewN ?_ _ | refine blk_drew ?_ | refine blk_alloc ?_ _)); refine blk_put (cs := #[.int .i64 a3, .int .i64 a4, .slice Ao109 t249.length co109, .slice none 0 0, .slice none 0 0]) ?_ 3 _ rfl; (with_reducible repeat (first | refine blk_drewN ?_ _ | refine blk_drew ?_ | refine blk_alloc ?_ _)); refine blk_put (cs := #[.int .i64 a3, .int .i64 a4, .slice none 0 0, .slice none 0 0, .slice none 0 0]) ?_ 2 _ rfl; (with_reducible repeat (first | refine blk_drewN ?_ _ | refine blk_drew ?_ | refine blk_alloc ?_ _)); refine blk_put (cs := #[.int .i64 a3, .int .i64 0, .slice none 0 0, .slice none 0 0, .slice none 0 0]) ?_ 1 _ rfl; (with_reducible repeat (first | refine blk_drewN ?_ _ | refine blk_drew ?_ | refine blk_alloc ?_ _)); refine blk_put (cs := #[.int .i64 0, .int .i64 0, .slice none 0 0, .slice none 0 0, .slice none 0 0]) ?_ 0 _ rfl; (with_reducible repeat (first | refine blk_drewN ?_ _ | refine blk_drew ?_ | refine blk_alloc ?_ _)); exact BK246.out) Try.underlying24 rfl (by kernel_rfl)) rfl ?_
          exact ⟨_, _, _, by first | rfl | (simp [errW_none, errW_some] <;> rfl) | (simp [*, errW_none, errW_some] <;> rfl), by (with_reducible repeat (first | apply Kd.R_alloc | apply Kd.R_drewN | apply Kd.R_drew)); exact Kd.R_mono (Kd.R_far (p := ⟨gb246, 4, none⟩) (Kd.R_far (p := ⟨gb246, 3, none⟩) (Kd.R_far (p := ⟨gb246, 2, none⟩) (Kd.R_far (p := ⟨gb246, 1, none⟩) (Kd.R_far (p := ⟨gb246, 0, none⟩) (Kd.R_types HO251.out BK246.out (by decide)) (fun _ hk => hk.2) (.int .i64 a3)) (fun _ hk => hk.2) (.int .i64 a4)) (fun _ hk => hk.2) (.slice Ao109 t249.length co109)) (fun _ hk => hk.2) (.slice Ao108 t252.length co108)) (fun _ hk => hk.2) (.slice Ao107 t255.length co107)) (fun _ hk => ⟨hk.1.1.2, hk.1.2⟩), by (with_reducible repeat (first | apply Kd.R_alloc | apply Kd.R_drewN | apply Kd.R_drew)); exact Kd.R_mono (Kd.R_far (p := ⟨gb246, 4, none⟩) (Kd.R_far (p := ⟨gb246, 3, none⟩) (Kd.R_far (p := ⟨gb246, 2, none⟩) (Kd.R_far (p := ⟨gb246, 1, none⟩) (Kd.R_far (p := ⟨gb246, 0, none⟩) (Kd.R_types HO254.out BK246.out (by decide)) (fun _ hk => hk.2) (.int .i64 a3)) (fun _ hk => hk.2) (.int .i64 a4)) (fun _ hk => hk.2) (.slice Ao109 t249.length co109)) (fun _ hk => hk.2) (.slice Ao108 t252.length co108)) (fun _ hk => hk.2) (.slice Ao107 t255.length co107)) (fun _ hk => ⟨hk.1.1.2, hk.1.2⟩), by (with_reducible repeat (first | apply Kd.R_alloc | apply Kd.R_drewN | apply Kd.R_drew)); exact Kd.R_mono (Kd.R_far (p := ⟨gb246, 4, none⟩) (Kd.R_far (p := ⟨gb246, 3, none⟩) (Kd.R_far (p := ⟨gb246, 2, none⟩) (Kd.R_far (p := ⟨gb246, 1, none⟩) (Kd.R_far (p := ⟨gb246, 0, none⟩) (Kd.R_types HO257.out BK246.out (by decide)) (fun _ hk => hk.2) (.int .i64 a3)) (fun _ hk => hk.2) (.int .i64 a4)) (fun _ hk => hk.2) (.slice Ao109 t249.length co109)) (fun _ hk => hk.2) (.slice Ao108 t252.length co108)) (fun _ hk => hk.2) (.slice Ao107 t255.length co107)) (fun _ hk => ⟨hk.1.1.2, hk.1.2⟩), by repeat (first | (with_reducible first | exact HB.out | apply below_alloc | apply pw_below_drewN | apply below_drew1 | refine below_set ?_ GE244.out | refine below_set ?_ GE245.out | refine below_set ?_ GE246.out) | exact HB.out)⟩
        · replace c95 := Bool.eq_false_iff.mpr c95
          subst c95
          have H1 : (some (0, 0, ([] : List Int), ([] : List Int), ([] : List Int), 2)) = some (r1, r2, r3, r4, r5, r6) := by rw [if_neg (show ¬ (false = true) by decide)] at H; exact H
          clear H
          have H := H1
          clear H1
          simp only [Option.some.injEq, Prod.mk.injEq] at H
          obtain ⟨rfl, rfl, rfl, rfl, rfl, rfl⟩ := H
          have hnb115 := NB245_244.out
          have hnc115 := NB244_245.out
          have hnb116 := NB245_246.out
          have hnc116 := NB246_245.out
          have hcz117_0 : wc.cell? ⟨gb245, 0, none⟩ = some (.int .i64 a5_0) := (blk_cell BK245.out 0).trans rfl
          have hcz117_1 : wc.cell? ⟨gb245, 1, none⟩ = some (.int .i64 a5_1) := (blk_cell BK245.out 1).trans rfl
          have hfz117_0 := blk_frozen BK245.out 0
          have hfz117_1 := blk_frozen BK245.out 1
          go_wp2_with (first | ((with_reducible refine gate_callee (f := 34) rfl ?_); refine goesL_ (some 65) rfl rfl Try.func34 (by kernel_rfl) rfl #[.agg #[.int .i64 a5_0, .int .i64 a5_1]] rfl (by (try simp only [List.map_toArray, List.map_cons, List.map_nil]); first | done | rfl | (simp only [List.length_drop, List.length_take]; rfl)) ?_; (with_reducible refine (cutroomref08_May.calls a5_0 a5_1 false _ A94.out).mono ?_); rintro e w118 ⟨rfl, hb⟩; refine ⟨_, rfl, ?_⟩; have n0_ := Aside0.mk (blk_below (g := gb244) (o := .cells #[.int .i64 a0_0, .int .i64 a0_1, .slice A0_2 l0_2.length c0_2, .slice A0_3 l0_3.length c0_3, .slice A0_4 l0_4.length c0_4] 24 (0, 0)) (by (with_reducible repeat (first | refine blk_drewN ?_ _ | refine blk_drew ?_ | refine blk_alloc ?_ _)); exact BK244.out) hb); have n1_ := Aside0.mk (blk_below (g := gb245) (o := .cells #[.int .i64 a5_0, .int .i64 a5_1] 32 (0, 0)) (by (with_reducible repeat (first | refine blk_drewN ?_ _ | refine blk_drew ?_ | refine blk_alloc ?_ _)); exact BK245.out) hb); have n2_ := Aside0.mk (blk_below (g := gb246) (o := .cells #[.int .i64 0, .int .i64 0, .slice none 0 0, .slice none 0 0, .slice none 0 0] 24 (0, 0)) (by (with_reducible repeat (first | refine blk_drewN ?_ _ | refine blk_drew ?_ | refine blk_alloc ?_ _)); exact BK246.out) hb); have n3_ := Aside0.mk (below_step (by repeat (first | (with_reducible first | exact HB.out | apply below_alloc | apply pw_below_drewN | apply below_drew1 | refine below_set ?_ GE244.out | refine below_set ?_ GE245.out | refine below_set ?_ GE246.out) | exact HB.out)) hb); clear BK244; clear BK245; clear BK246; clear HB; have BK244 := n0_; have BK245 := n1_; have BK246 := n2_; have HB := n3_; clear n0_ n1_ n2_ n3_; (try clear hb); (try clear hb2); (try clear hk); (try clear hi); have hnb119 := NB246_244.out; have hnc119 := NB244_246.out; have hcz120_0 : w118.cell? ⟨gb246, 0, none⟩ = some (.int .i64 0) := (blk_cell BK246.out 0).trans rfl; have hcz120_1 : w118.cell? ⟨gb246, 1, none⟩ = some (.int .i64 0) := (blk_cell BK246.out 1).trans rfl; have hcz120_2 : w118.cell? ⟨gb246, 2, none⟩ = some (.slice none 0 0) := (blk_cell BK246.out 2).trans rfl; have hcz120_3 : w118.cell? ⟨gb246, 3, none⟩ = some (.slice none 0 0) := (blk_cell BK246.out 3).trans rfl; have hcz120_4 : w118.cell? ⟨gb246, 4, none⟩ = some (.slice none 0 0) := (blk_cell BK246.out 4).trans rfl; have hfz120_0 := blk_frozen BK246.out 0; have hfz120_1 := blk_frozen BK246.out 1; have hfz120_2 := blk_frozen BK246.out 2; have hfz120_3 := blk_frozen BK246.out 3; have hfz120_4 := blk_frozen BK246.out 4))
          refine bodyPost_ret (results_ct rfl _ _ gb246 24 #[.int .i64 0, .int .i64 0, .slice none 0 0, .slice none 0 0, .slice none 0 0] (0, 0) _ rfl (by (with_reducible repeat (first | refine blk_drewN ?_ _ | refine blk_drew ?_ | refine blk_alloc ?_ _)); refine blk_put (cs := #[.int .i64 0, .int .i64 0, .slice none 0 0, .slice none 0 0, .slice none 0 0]) ?_ 4 _ rfl; (with_reducible repeat (first | refine blk_drewN ?_ _ | refine blk_drew ?_ | refine blk_alloc ?_ _)); refine blk_put (cs := #[.int .i64 0, .int .i64 0, .slice none 0 0, .slice none 0 0, .slice none 0 0]) ?_ 3 _ rfl; (with_reducible repeat (first | refine blk_drewN ?_ _ | refine blk_drew ?_ | refine blk_alloc ?_ _)); refine blk_put (cs := #[.int .i64 0, .int .i64 0, .slice none 0 0, .slice none 0 0, .slice none 0 0]) ?_ 2 _ rfl; (with_reducible repeat (first | refine blk_drewN ?_ _ | refine blk_drew ?_ | refine blk_alloc ?_ _)); refine blk_put (cs := #[.int .i64 0, .int .i64 0, .slice none 0 0, .slice none 0 0, .slice none 0 0]) ?_ 1 _ rfl; (with_reducible repeat (first | refine blk_drewN ?_ _ | refine blk_drew ?_ | refine blk_alloc ?_ _)); refine blk_put (cs := #[.int .i64 0, .int .i64 0, .slice none 0 0, .slice none 0 0, .slice none 0 0]) ?_ 0 _ rfl; (with_reducible repeat (first | refine blk_drewN ?_ _ | refine blk_drew ?_ | refine blk_alloc ?_ _)); exact BK246.out) Try.underlying24 rfl (by kernel_rfl)) rfl ?_
          exact ⟨_, _, _, by first | rfl | (simp [errW_none, errW_some] <;> rfl) | (simp [*, errW_none, errW_some] <;> rfl), by first | exact Kd.R_nil _ _ _ _ _ | exact Kd.N_nil _ _ _ _ _ | exact Kd.V_nil _ _ _ _ _ | exact Kd.Q_nil _ _ _ _ _ | exact Kd.S_nil _ _ _ _ _, by first | exact Kd.R_nil _ _ _ _ _ | exact Kd.N_nil _ _ _ _ _ | exact Kd.V_nil _ _ _ _ _ | exact Kd.Q_nil _ _ _ _ _ | exact Kd.S_nil _ _ _ _ _, by first | exact Kd.R_nil _ _ _ _ _ | exact Kd.N_nil _ _ _ _ _ | exact Kd.V_nil _ _ _ _ _ | exact Kd.Q_nil _ _ _ _ _ | exact Kd.S_nil _ _ _ _ _, by repeat (first | (with_reducible first | exact HB.out | apply below_alloc | apply pw_below_drewN | apply below_drew1 | refine below_set ?_ GE244.out | refine below_set ?_ GE245.out | refine below_set ?_ GE246.out) | exact HB.out)⟩

end Go.Proofs.Ytnihjbcdlgfklaa.PMotionPredicts
