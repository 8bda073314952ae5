-- Written by a program of this session, after the form of the kit's print; each text is checked by Lean alone.
import Derived.Test.YtalnnbokmpppjaaPPlaneDistancex0
import Derived.Test.YtalnnbokmpppjaaPPlaneDistancex4
import Derived.Test.YtalnnbokmpppjaaPPlaneDistancex5
namespace Go.Proofs.Ytalnnbokmpppjaa.PPlaneDistance
open Go.RowKit Go.Proofs.YtalnnbokmpppjaaW.PrintWords Go.Proofs.YtalnnbokmpppjaaW.PrintLast Go.Proofs.YtalnnbokmpppjaaW.PrintMore
attribute [local go_sem] max2_int min2_int max_two min_two max_three min_three max_four min_four   -- for this text's walks alone
set_option linter.unusedVariables false
set_option linter.unusedSimpArgs false

/-! ### cutroomref07_Distance: function 25 -/
def cutroomref07_Distance.j0 : Nat → Bool → Int → Int → List Int → List Int → List Int → Int → Int → List Int → List Int → List Int → Option (Int)
  | 0, _, _, _, _, _, _, _, _, _, _, _ => none
  | k + 1, x26, x190000, x190001, x190002, x190003, x190004, x191000, x191001, x191002, x191003, x191004 => if x26 = true then (some (-1)) else ((cutroomref07_apart.f k x190002 x191002).bind fun t193 => ((cutroomref07_apart.f k x190003 x191003).bind fun t194 => ((cutroomref07_apart.f k x190004 x191004).bind fun t195 => (some (mx (mx t193 t194) t195)))))
def cutroomref07_Distance.f (k : Nat) (a0_0 : Int) (a0_1 : Int) (l0_2 : List Int) (l0_3 : List Int) (l0_4 : List Int) (a1_0 : Int) (a1_1 : Int) (l1_2 : List Int) (l1_3 : List Int) (l1_4 : List Int) : Option (Int) := (cutroomref07_Formed.f a0_0 a0_1 l0_2 l0_3 l0_4).bind fun t191 => (if t191 = true then ((cutroomref07_Formed.f a1_0 a1_1 l1_2 l1_3 l1_4).bind fun t192 => (if t192 = true then (if a0_0 = a1_0 then (cutroomref07_Distance.j0 k (a0_1 != a1_1) a0_0 a0_1 l0_2 l0_3 l0_4 a1_0 a1_1 l1_2 l1_3 l1_4) else (cutroomref07_Distance.j0 k true a0_0 a0_1 l0_2 l0_3 l0_4 a1_0 a1_1 l1_2 l1_3 l1_4)) else (cutroomref07_Distance.j0 k true a0_0 a0_1 l0_2 l0_3 l0_4 a1_0 a1_1 l1_2 l1_3 l1_4))) else (cutroomref07_Distance.j0 k true a0_0 a0_1 l0_2 l0_3 l0_4 a1_0 a1_1 l1_2 l1_3 l1_4))
theorem cutroomref07_Distance.mono_l : ∀ k, (∀ y0 y1 y2 y3 y4 y5 y6 y7 y8 y9 y10, LeO (cutroomref07_Distance.j0 k y0 y1 y2 y3 y4 y5 y6 y7 y8 y9 y10) (cutroomref07_Distance.j0 (k + 1) y0 y1 y2 y3 y4 y5 y6 y7 y8 y9 y10))
  | 0 => fun _ _ _ _ _ _ _ _ _ _ _ r h => by simp [cutroomref07_Distance.j0] at h
  | k + 1 => by
    have ih0 := cutroomref07_Distance.mono_l k
    · intro y0 y1 y2 y3 y4 y5 y6 y7 y8 y9 y10
      unfold cutroomref07_Distance.j0
      repeat' first
      | (with_reducible exact ih0 _ _ _ _ _ _ _ _ _ _ _)
      | (with_reducible exact cutroomref07_apart.mono _ _ _)
      | (with_reducible exact LeO.refl _)
      | (with_reducible exact LeO.none _)
      | (with_reducible refine LeO.ite ?_ ?_)
      | (with_reducible refine LeO.bind ?_ (fun _ => ?_))
      | exact ih0 _ _ _ _ _ _ _ _ _ _ _
      | exact cutroomref07_apart.mono _ _ _
      | exact LeO.none _
      | refine LeO.ite ?_ ?_
      | refine LeO.bind ?_ (fun _ => ?_)
theorem cutroomref07_Distance.mono : ∀ a0 a1 a2 a3 a4 a5 a6 a7 a8 a9 k, LeO (cutroomref07_Distance.f k a0 a1 a2 a3 a4 a5 a6 a7 a8 a9) (cutroomref07_Distance.f (k + 1) a0 a1 a2 a3 a4 a5 a6 a7 a8 a9) := by
  intro a0 a1 a2 a3 a4 a5 a6 a7 a8 a9 k
  have ih0 := cutroomref07_Distance.mono_l k
  unfold cutroomref07_Distance.f
  repeat' first
      | (with_reducible exact ih0 _ _ _ _ _ _ _ _ _ _ _)
      | (with_reducible exact cutroomref07_apart.mono _ _ _)
      | (with_reducible exact LeO.refl _)
      | (with_reducible exact LeO.none _)
      | (with_reducible refine LeO.ite ?_ ?_)
      | (with_reducible refine LeO.bind ?_ (fun _ => ?_))
      | exact ih0 _ _ _ _ _ _ _ _ _ _ _
      | exact cutroomref07_apart.mono _ _ _
      | exact LeO.none _
      | refine LeO.ite ?_ ?_
      | refine LeO.bind ?_ (fun _ => ?_)
def cutroomref07_Distance.T3 : Bool × List (List Nat × List Nat) := (true, [([], []), ([0], [0]), ([], []), ([2], [2]), ([1, 3], [1, 3]), ([], []), ([5], [5]), ([], []), ([7], [7]), ([6, 8, 4], [6, 8]), ([], []), ([10], [10]), ([], []), ([12], [12]), ([11, 13, 9], [11, 13]), ([4, 9, 14], [4, 9, 14]), ([15, 14, 0, 1, 2, 3, 4, 5, 6, 7, 8, 9, 10, 11, 12, 13, 14, 15], [15])])
def cutroomref07_Distance.B3 : List Nat := [0, 1, 0, 4, 15, 0, 32, 0, 128, 511, 0, 1024, 0, 4096, 16383, 32767, 65535]
theorem cutroomref07_Distance.tab3 : rtab .any (opsOf Try.f25 3) = cutroomref07_Distance.T3 := by kernel_rfl
theorem cutroomref07_Distance.bits3 : waitsOk cutroomref07_Distance.T3.2 cutroomref07_Distance.B3 = true := by kernel_rfl
set_option maxHeartbeats 8000000 in
set_option maxRecDepth 100000 in
theorem cutroomref07_Distance.calls (k : Nat) (a0_0 : Int) (a0_1 : Int) (A0_2 : Option Addr) (c0_2 : Nat) (l0_2 : List Int) (A0_3 : Option Addr) (c0_3 : Nat) (l0_3 : List Int) (A0_4 : Option Addr) (c0_4 : Nat) (l0_4 : List Int) (a1_0 : Int) (a1_1 : Int) (A1_2 : Option Addr) (c1_2 : Nat) (l1_2 : List Int) (A1_3 : Option Addr) (c1_3 : Nat) (l1_3 : List Int) (A1_4 : Option Addr) (c1_4 : Nat) (l1_4 : List Int) (r : Int) (w : World) (hr0_2 : Kd.C (Kd.int .u8) w A0_2 l0_2.length l0_2) (hc0_2 : l0_2.length ≤ c0_2) (hr0_3 : Kd.C (Kd.int .u8) w A0_3 l0_3.length l0_3) (hc0_3 : l0_3.length ≤ c0_3) (hr0_4 : Kd.C (Kd.int .u8) w A0_4 l0_4.length l0_4) (hc0_4 : l0_4.length ≤ c0_4) (hr1_2 : Kd.C (Kd.int .u8) w A1_2 l1_2.length l1_2) (hc1_2 : l1_2.length ≤ c1_2) (hr1_3 : Kd.C (Kd.int .u8) w A1_3 l1_3.length l1_3) (hc1_3 : l1_3.length ≤ c1_3) (hr1_4 : Kd.C (Kd.int .u8) w A1_4 l1_4.length l1_4) (hc1_4 : l1_4.length ≤ c1_4) (h : cutroomref07_Distance.f k a0_0 a0_1 l0_2 l0_3 l0_4 a1_0 a1_1 l1_2 l1_3 l1_4 = some r) :
    Calls Try.prog 25 #[.agg #[.int .i64 a0_0, .int .i64 a0_1, .slice A0_2 l0_2.length c0_2, .slice A0_3 l0_3.length c0_3, .slice A0_4 l0_4.length c0_4], .agg #[.int .i64 a1_0, .int .i64 a1_1, .slice A1_2 l1_2.length c1_2, .slice A1_3 l1_3.length c1_3, .slice A1_4 l1_4.length c1_4]] w fun e w' => e = .returned (.int .i64 r) ∧ Below w.heap.size w w' := by
  have hu24 := Try.underlying24
  have HR0_2 := Aside0.mk hr0_2
  have HC0_2 := Aside0.mk hc0_2
  clear hr0_2 hc0_2
  have HR0_3 := Aside0.mk hr0_3
  have HC0_3 := Aside0.mk hc0_3
  clear hr0_3 hc0_3
  have HR0_4 := Aside0.mk hr0_4
  have HC0_4 := Aside0.mk hc0_4
  clear hr0_4 hc0_4
  have HR1_2 := Aside0.mk hr1_2
  have HC1_2 := Aside0.mk hc1_2
  clear hr1_2 hc1_2
  have HR1_3 := Aside0.mk hr1_3
  have HC1_3 := Aside0.mk hc1_3
  clear hr1_3 hc1_3
  have HR1_4 := Aside0.mk hr1_4
  have HC1_4 := Aside0.mk hc1_4
  clear hr1_4 hc1_4
  have HB := Aside0.mk (Below.refl w.heap.size w)
  have H : ((cutroomref07_Formed.f a0_0 a0_1 l0_2 l0_3 l0_4).bind fun t191 => (if t191 = true then ((cutroomref07_Formed.f a1_0 a1_1 l1_2 l1_3 l1_4).bind fun t192 => (if t192 = true then (if a0_0 = a1_0 then (cutroomref07_Distance.j0 k (a0_1 != a1_1) a0_0 a0_1 l0_2 l0_3 l0_4 a1_0 a1_1 l1_2 l1_3 l1_4) else (cutroomref07_Distance.j0 k true a0_0 a0_1 l0_2 l0_3 l0_4 a1_0 a1_1 l1_2 l1_3 l1_4)) else (cutroomref07_Distance.j0 k true a0_0 a0_1 l0_2 l0_3 l0_4 a1_0 a1_1 l1_2 l1_3 l1_4))) else (cutroomref07_Distance.j0 k true a0_0 a0_1 l0_2 l0_3 l0_4 a1_0 a1_1 l1_2 l1_3 l1_4))) = some r := h
  clear h
  have HC3 := Aside0.mk H
  clear H
  go_enter Try.func25, Try.ntmps25
  go_upto_region 1 with (first | ((with_reducible refine gate_dst (N := 2) rfl ?_); refine box_event ?hg (N := 2) ?hd (cs := #[.int .i64 a0_0, .int .i64 a0_1, .slice A0_2 l0_2.length c0_2, .slice A0_3 l0_3.length c0_3, .slice A0_4 l0_4.length c0_4]) (t := 24) ?hr ?_; (case hd => rfl); (case hg => rfl); (case hr => first | (go_simp; done) | (go_simp; rfl)); intro gb189 hg w4 hbox hb; have n0_ := Aside0.mk (below_step (by repeat (first | (with_reducible first | exact HB.out | apply below_alloc | apply pw_below_drewN | apply below_drew1) | exact HB.out)) hb); have n1_ := Aside0.mk (hbox); have n2_ := Aside0.mk ((by rw [hg]; exact (below_size (by repeat (first | (with_reducible first | exact HB.out | apply below_alloc | apply pw_below_drewN | apply below_drew1) | exact HB.out))) : w.heap.size ≤ gb189)); have n3_ := Aside0.mk ((by rw [hg]; exact (below_size (by repeat (first | (with_reducible first | exact HB.out | apply below_alloc | apply pw_below_drewN | apply below_drew1) | exact HB.out))) : w.heap.size ≤ gb189)); clear HB; have HB := n0_; have BK189 := n1_; have GW189 := n2_; have GE189 := n3_; clear n0_ n1_ n2_ n3_; clear hb hbox hg) | ((with_reducible refine gate_dst (N := 3) rfl ?_); refine box_event ?hg (N := 3) ?hd (cs := #[.int .i64 a1_0, .int .i64 a1_1, .slice A1_2 l1_2.length c1_2, .slice A1_3 l1_3.length c1_3, .slice A1_4 l1_4.length c1_4]) (t := 24) ?hr ?_; (case hd => rfl); (case hg => rfl); (case hr => first | (go_simp; done) | (go_simp; rfl)); intro gb190 hg w5 hbox hb; have n0_ := Aside0.mk (blk_below (g := gb189) (o := .cells #[.int .i64 a0_0, .int .i64 a0_1, .slice A0_2 l0_2.length c0_2, .slice A0_3 l0_3.length c0_3, .slice A0_4 l0_4.length c0_4] 24 (0, 0)) (by (with_reducible repeat (first | refine blk_drewN ?_ _ | refine blk_drew ?_ | refine blk_alloc ?_ _)); exact BK189.out) hb); have n1_ := Aside0.mk (below_step (by repeat (first | (with_reducible first | exact HB.out | apply below_alloc | apply pw_below_drewN | apply below_drew1 | refine below_set ?_ GE189.out) | exact HB.out)) hb); have n2_ := Aside0.mk (hbox); have n3_ := Aside0.mk ((by rw [hg]; exact (below_size (by repeat (first | (with_reducible first | exact HB.out | apply below_alloc | apply pw_below_drewN | apply below_drew1 | refine below_set ?_ GE189.out) | exact HB.out))) : w.heap.size ≤ gb190)); have n4_ := Aside0.mk ((by rw [hg]; exact (below_size (by repeat (first | (with_reducible first | exact HB.out | apply below_alloc | apply pw_below_drewN | apply below_drew1 | refine below_set ?_ GE189.out) | exact HB.out))) : w.heap.size ≤ gb190)); have n5_ := Aside0.mk ((by rw [hg]; exact Nat.ne_of_lt (blk_lt (g := gb189) (o := .cells #[.int .i64 a0_0, .int .i64 a0_1, .slice A0_2 l0_2.length c0_2, .slice A0_3 l0_3.length c0_3, .slice A0_4 l0_4.length c0_4] 24 (0, 0)) (by (with_reducible repeat (first | refine blk_drewN ?_ _ | refine blk_drew ?_ | refine blk_alloc ?_ _)); exact BK189.out)) : gb189 ≠ gb190)); have n6_ := Aside0.mk ((by rw [hg]; exact Nat.ne_of_gt (blk_lt (g := gb189) (o := .cells #[.int .i64 a0_0, .int .i64 a0_1, .slice A0_2 l0_2.length c0_2, .slice A0_3 l0_3.length c0_3, .slice A0_4 l0_4.length c0_4] 24 (0, 0)) (by (with_reducible repeat (first | refine blk_drewN ?_ _ | refine blk_drew ?_ | refine blk_alloc ?_ _)); exact BK189.out)) : gb190 ≠ gb189)); clear BK189; clear HB; have BK189 := n0_; have HB := n1_; have BK190 := n2_; have GW190 := n3_; have GE190 := n4_; have NB189_190 := n5_; have NB190_189 := n6_; clear n0_ n1_ n2_ n3_ n4_ n5_ n6_; clear hb hbox hg))
  (try simp only [Act.put, List.setIfInBounds_toArray, List.set_cons_zero, List.set_cons_succ])
  go_cut [26] (fun v26 wc => ∃ (kq : Nat) (x26_2 : Bool), v26 = .bool x26_2 ∧ Aside0 (cutroomref07_Distance.j0 kq x26_2 a0_0 a0_1 l0_2 l0_3 l0_4 a1_0 a1_1 l1_2 l1_3 l1_4 = some r) ∧ Aside0 (kq ≤ k) ∧ Aside0 (wc.heap[gb189]? = some (.cells #[.int .i64 a0_0, .int .i64 a0_1, (.slice A0_2 l0_2.length c0_2), (.slice A0_3 l0_3.length c0_3), (.slice A0_4 l0_4.length c0_4)] 24 (0, 0))) ∧ Aside0 (wc.heap[gb190]? = some (.cells #[.int .i64 a1_0, .int .i64 a1_1, (.slice A1_2 l1_2.length c1_2), (.slice A1_3 l1_3.length c1_3), (.slice A1_4 l1_4.length c1_4)] 24 (0, 0))) ∧ Aside0 (Below w.heap.size w wc))
  case first =>
    have H := HC3.out
    clear HC3
    replace H := Option.bind_eq_some_iff.mp H
    obtain ⟨t191, A60, H⟩ := H
    replace H : (if t191 = true then ((cutroomref07_Formed.f a1_0 a1_1 l1_2 l1_3 l1_4).bind fun t192 => (if t192 = true then (if a0_0 = a1_0 then (cutroomref07_Distance.j0 k (a0_1 != a1_1) a0_0 a0_1 l0_2 l0_3 l0_4 a1_0 a1_1 l1_2 l1_3 l1_4) else (cutroomref07_Distance.j0 k true a0_0 a0_1 l0_2 l0_3 l0_4 a1_0 a1_1 l1_2 l1_3 l1_4)) else (cutroomref07_Distance.j0 k true a0_0 a0_1 l0_2 l0_3 l0_4 a1_0 a1_1 l1_2 l1_3 l1_4))) else (cutroomref07_Distance.j0 k true a0_0 a0_1 l0_2 l0_3 l0_4 a1_0 a1_1 l1_2 l1_3 l1_4)) = some r := H
    have A6 := Aside0.mk A60
    clear A60
    by_cases c7 : t191 = true
    · subst c7
      have H1 : ((cutroomref07_Formed.f a1_0 a1_1 l1_2 l1_3 l1_4).bind fun t192 => (if t192 = true then (if a0_0 = a1_0 then (cutroomref07_Distance.j0 k (a0_1 != a1_1) a0_0 a0_1 l0_2 l0_3 l0_4 a1_0 a1_1 l1_2 l1_3 l1_4) else (cutroomref07_Distance.j0 k true a0_0 a0_1 l0_2 l0_3 l0_4 a1_0 a1_1 l1_2 l1_3 l1_4)) else (cutroomref07_Distance.j0 k true a0_0 a0_1 l0_2 l0_3 l0_4 a1_0 a1_1 l1_2 l1_3 l1_4))) = some r := by rw [if_pos rfl] at H; exact H
      clear H
      have H := H1
      clear H1
      replace H := Option.bind_eq_some_iff.mp H
      obtain ⟨t192, A80, H⟩ := H
      replace H : (if t192 = true then (if a0_0 = a1_0 then (cutroomref07_Distance.j0 k (a0_1 != a1_1) a0_0 a0_1 l0_2 l0_3 l0_4 a1_0 a1_1 l1_2 l1_3 l1_4) else (cutroomref07_Distance.j0 k true a0_0 a0_1 l0_2 l0_3 l0_4 a1_0 a1_1 l1_2 l1_3 l1_4)) else (cutroomref07_Distance.j0 k true a0_0 a0_1 l0_2 l0_3 l0_4 a1_0 a1_1 l1_2 l1_3 l1_4)) = some r := H
      have A8 := Aside0.mk A80
      clear A80
      by_cases c9 : t192 = true
      · subst c9
        have H1 : (if a0_0 = a1_0 then (cutroomref07_Distance.j0 k (a0_1 != a1_1) a0_0 a0_1 l0_2 l0_3 l0_4 a1_0 a1_1 l1_2 l1_3 l1_4) else (cutroomref07_Distance.j0 k true a0_0 a0_1 l0_2 l0_3 l0_4 a1_0 a1_1 l1_2 l1_3 l1_4)) = some r := by rw [if_pos rfl] at H; exact H
        clear H
        have H := H1
        clear H1
        by_cases c10 : a0_0 = a1_0
        · rw [if_pos c10] at H
          have c10b0 : (a0_0 == a1_0) = true := beq_iff_eq.mpr c10
          have c10b1 : (a0_0 != a1_0) = false := bne_eq_false_iff_eq.mpr c10
          clear c10
          (first | rw [c10b0] | (simp only [i64_w, i32_w]; rw [c10b0]) | skip)
          have H' := Aside0.mk H
          clear H
          have hnb11 := NB189_190.out
          have hnc11 := NB190_189.out
          have hcz12_0 : w5.cell? ⟨gb189, 0, none⟩ = some (.int .i64 a0_0) := (blk_cell BK189.out 0).trans rfl
          have hcz12_1 : w5.cell? ⟨gb189, 1, none⟩ = some (.int .i64 a0_1) := (blk_cell BK189.out 1).trans rfl
          have hcz12_2 : w5.cell? ⟨gb189, 2, none⟩ = some (.slice A0_2 l0_2.length c0_2) := (blk_cell BK189.out 2).trans rfl
          have hcz12_3 : w5.cell? ⟨gb189, 3, none⟩ = some (.slice A0_3 l0_3.length c0_3) := (blk_cell BK189.out 3).trans rfl
          have hcz12_4 : w5.cell? ⟨gb189, 4, none⟩ = some (.slice A0_4 l0_4.length c0_4) := (blk_cell BK189.out 4).trans rfl
          have hfz12_0 := blk_frozen BK189.out 0
          have hfz12_1 := blk_frozen BK189.out 1
          have hfz12_2 := blk_frozen BK189.out 2
          have hfz12_3 := blk_frozen BK189.out 3
          have hfz12_4 := blk_frozen BK189.out 4
          go_wp2_with (first | ((with_reducible refine gate_callee (f := 16) rfl ?_); refine goesL_ (some 6) rfl rfl Try.func16 (by kernel_rfl) rfl #[.agg #[.int .i64 a0_0, .int .i64 a0_1, .slice A0_2 l0_2.length c0_2, .slice A0_3 l0_3.length c0_3, .slice A0_4 l0_4.length c0_4]] rfl (by (try simp only [List.map_toArray, List.map_cons, List.map_nil]); first | done | rfl | (simp only [List.length_drop, List.length_take]; rfl)) ?_; (with_reducible refine (cutroomref07_Formed.calls a0_0 a0_1 _ _ l0_2 _ _ l0_3 _ _ l0_4 true _ ?side1 ?side2 ?side3 ?side4 ?side5 ?side6 A6.out).mono ?_); (case side1 => repeat (first | exact (Kd.C_below HR0_2.out HB.out) | (with_reducible refine Kd.C_alloc ?_ _) | (with_reducible refine Kd.C_drewN ?_ _) | (with_reducible refine Kd.C_drew ?_))); (case side2 => exact HC0_2.out); (case side3 => repeat (first | exact (Kd.C_below HR0_3.out HB.out) | (with_reducible refine Kd.C_alloc ?_ _) | (with_reducible refine Kd.C_drewN ?_ _) | (with_reducible refine Kd.C_drew ?_))); (case side4 => exact HC0_3.out); (case side5 => repeat (first | exact (Kd.C_below HR0_4.out HB.out) | (with_reducible refine Kd.C_alloc ?_ _) | (with_reducible refine Kd.C_drewN ?_ _) | (with_reducible refine Kd.C_drew ?_))); (case side6 => exact HC0_4.out); rintro e w13 ⟨rfl, hb⟩; refine ⟨_, rfl, ?_⟩; have n0_ := Aside0.mk (blk_below (g := gb189) (o := .cells #[.int .i64 a0_0, .int .i64 a0_1, .slice A0_2 l0_2.length c0_2, .slice A0_3 l0_3.length c0_3, .slice A0_4 l0_4.length c0_4] 24 (0, 0)) (by (with_reducible repeat (first | refine blk_drewN ?_ _ | refine blk_drew ?_ | refine blk_alloc ?_ _)); exact BK189.out) hb); have n1_ := Aside0.mk (blk_below (g := gb190) (o := .cells #[.int .i64 a1_0, .int .i64 a1_1, .slice A1_2 l1_2.length c1_2, .slice A1_3 l1_3.length c1_3, .slice A1_4 l1_4.length c1_4] 24 (0, 0)) (by (with_reducible repeat (first | refine blk_drewN ?_ _ | refine blk_drew ?_ | refine blk_alloc ?_ _)); exact BK190.out) hb); have n2_ := Aside0.mk (below_step (by repeat (first | (with_reducible first | exact HB.out | apply below_alloc | apply pw_below_drewN | apply below_drew1 | refine below_set ?_ GE189.out | refine below_set ?_ GE190.out) | exact HB.out)) hb); clear BK189; clear BK190; clear HB; have BK189 := n0_; have BK190 := n1_; have HB := n2_; clear n0_ n1_ n2_; (try clear hb); (try clear hb2); (try clear hk); (try clear hi); have hcz14_0 : w13.cell? ⟨gb190, 0, none⟩ = some (.int .i64 a1_0) := (blk_cell BK190.out 0).trans rfl; have hcz14_1 : w13.cell? ⟨gb190, 1, none⟩ = some (.int .i64 a1_1) := (blk_cell BK190.out 1).trans rfl; have hcz14_2 : w13.cell? ⟨gb190, 2, none⟩ = some (.slice A1_2 l1_2.length c1_2) := (blk_cell BK190.out 2).trans rfl; have hcz14_3 : w13.cell? ⟨gb190, 3, none⟩ = some (.slice A1_3 l1_3.length c1_3) := (blk_cell BK190.out 3).trans rfl; have hcz14_4 : w13.cell? ⟨gb190, 4, none⟩ = some (.slice A1_4 l1_4.length c1_4) := (blk_cell BK190.out 4).trans rfl; have hfz14_0 := blk_frozen BK190.out 0; have hfz14_1 := blk_frozen BK190.out 1; have hfz14_2 := blk_frozen BK190.out 2; have hfz14_3 := blk_frozen BK190.out 3; have hfz14_4 := blk_frozen BK190.out 4) | (go_at_call 16; (with_reducible refine (cutroomref07_Formed.calls a1_0 a1_1 _ _ l1_2 _ _ l1_3 _ _ l1_4 true _ ?side1 ?side2 ?side3 ?side4 ?side5 ?side6 A8.out).mono ?_); (case side1 => repeat (first | exact (Kd.C_below HR1_2.out HB.out) | (with_reducible refine Kd.C_alloc ?_ _) | (with_reducible refine Kd.C_drewN ?_ _) | (with_reducible refine Kd.C_drew ?_))); (case side2 => exact HC1_2.out); (case side3 => repeat (first | exact (Kd.C_below HR1_3.out HB.out) | (with_reducible refine Kd.C_alloc ?_ _) | (with_reducible refine Kd.C_drewN ?_ _) | (with_reducible refine Kd.C_drew ?_))); (case side4 => exact HC1_3.out); (case side5 => repeat (first | exact (Kd.C_below HR1_4.out HB.out) | (with_reducible refine Kd.C_alloc ?_ _) | (with_reducible refine Kd.C_drewN ?_ _) | (with_reducible refine Kd.C_drew ?_))); (case side6 => exact HC1_4.out); rintro e w15 ⟨rfl, hb⟩; have n0_ := Aside0.mk (blk_below (g := gb189) (o := .cells #[.int .i64 a0_0, .int .i64 a0_1, .slice A0_2 l0_2.length c0_2, .slice A0_3 l0_3.length c0_3, .slice A0_4 l0_4.length c0_4] 24 (0, 0)) (by (with_reducible repeat (first | refine blk_drewN ?_ _ | refine blk_drew ?_ | refine blk_alloc ?_ _)); exact BK189.out) hb); have n1_ := Aside0.mk (blk_below (g := gb190) (o := .cells #[.int .i64 a1_0, .int .i64 a1_1, .slice A1_2 l1_2.length c1_2, .slice A1_3 l1_3.length c1_3, .slice A1_4 l1_4.length c1_4] 24 (0, 0)) (by (with_reducible repeat (first | refine blk_drewN ?_ _ | refine blk_drew ?_ | refine blk_alloc ?_ _)); exact BK190.out) hb); have n2_ := Aside0.mk (below_step (by repeat (first | (with_reducible first | exact HB.out | apply below_alloc | apply pw_below_drewN | apply below_drew1 | refine below_set ?_ GE189.out | refine below_set ?_ GE190.out) | exact HB.out)) hb); clear BK189; clear BK190; clear HB; have BK189 := n0_; have BK190 := n1_; have HB := n2_; clear n0_ n1_ n2_; (try clear hb); (try clear hb2); (try clear hk); (try clear hi); have hcz16_0 : w15.cell? ⟨gb189, 0, none⟩ = some (.int .i64 a0_0) := (blk_cell BK189.out 0).trans rfl; have hcz16_1 : w15.cell? ⟨gb189, 1, none⟩ = some (.int .i64 a0_1) := (blk_cell BK189.out 1).trans rfl; have hcz16_2 : w15.cell? ⟨gb189, 2, none⟩ = some (.slice A0_2 l0_2.length c0_2) := (blk_cell BK189.out 2).trans rfl; have hcz16_3 : w15.cell? ⟨gb189, 3, none⟩ = some (.slice A0_3 l0_3.length c0_3) := (blk_cell BK189.out 3).trans rfl; have hcz16_4 : w15.cell? ⟨gb189, 4, none⟩ = some (.slice A0_4 l0_4.length c0_4) := (blk_cell BK189.out 4).trans rfl; have hfz16_0 := blk_frozen BK189.out 0; have hfz16_1 := blk_frozen BK189.out 1; have hfz16_2 := blk_frozen BK189.out 2; have hfz16_3 := blk_frozen BK189.out 3; have hfz16_4 := blk_frozen BK189.out 4; have hcz17_0 : w15.cell? ⟨gb190, 0, none⟩ = some (.int .i64 a1_0) := (blk_cell BK190.out 0).trans rfl; have hcz17_1 : w15.cell? ⟨gb190, 1, none⟩ = some (.int .i64 a1_1) := (blk_cell BK190.out 1).trans rfl; have hcz17_2 : w15.cell? ⟨gb190, 2, none⟩ = some (.slice A1_2 l1_2.length c1_2) := (blk_cell BK190.out 2).trans rfl; have hcz17_3 : w15.cell? ⟨gb190, 3, none⟩ = some (.slice A1_3 l1_3.length c1_3) := (blk_cell BK190.out 3).trans rfl; have hcz17_4 : w15.cell? ⟨gb190, 4, none⟩ = some (.slice A1_4 l1_4.length c1_4) := (blk_cell BK190.out 4).trans rfl; have hfz17_0 := blk_frozen BK190.out 0; have hfz17_1 := blk_frozen BK190.out 1; have hfz17_2 := blk_frozen BK190.out 2; have hfz17_3 := blk_frozen BK190.out 3; have hfz17_4 := blk_frozen BK190.out 4))
          go_meet
          case rel => exact ⟨_, ((a0_1 != a1_1)), (by first | rfl | (simp; done) | (simp [*]; done)), H', ⟨by first | omega | exact Nat.le_refl _⟩, ⟨by (with_reducible repeat (first | refine blk_drewN ?_ _ | refine blk_drew ?_ | refine blk_alloc ?_ _)); exact BK189.out⟩, ⟨by (with_reducible repeat (first | refine blk_drewN ?_ _ | refine blk_drew ?_ | refine blk_alloc ?_ _)); exact BK190.out⟩, ⟨by repeat (first | (with_reducible first | exact HB.out | apply below_alloc | apply pw_below_drewN | apply below_drew1 | refine below_set ?_ GE189.out | refine below_set ?_ GE190.out) | exact HB.out)⟩⟩
        · rw [if_neg c10] at H
          have c10b0 : (a0_0 == a1_0) = false := beq_eq_false_iff_ne.mpr c10
          have c10b1 : (a0_0 != a1_0) = true := bne_iff_ne.mpr c10
          (first | rw [c10b0] | (simp only [i64_w, i32_w]; rw [c10b0]) | skip)
          have H' := Aside0.mk H
          clear H
          have hnb18 := NB189_190.out
          have hnc18 := NB190_189.out
          have hcz19_0 : w5.cell? ⟨gb189, 0, none⟩ = some (.int .i64 a0_0) := (blk_cell BK189.out 0).trans rfl
          have hcz19_1 : w5.cell? ⟨gb189, 1, none⟩ = some (.int .i64 a0_1) := (blk_cell BK189.out 1).trans rfl
          have hcz19_2 : w5.cell? ⟨gb189, 2, none⟩ = some (.slice A0_2 l0_2.length c0_2) := (blk_cell BK189.out 2).trans rfl
          have hcz19_3 : w5.cell? ⟨gb189, 3, none⟩ = some (.slice A0_3 l0_3.length c0_3) := (blk_cell BK189.out 3).trans rfl
          have hcz19_4 : w5.cell? ⟨gb189, 4, none⟩ = some (.slice A0_4 l0_4.length c0_4) := (blk_cell BK189.out 4).trans rfl
          have hfz19_0 := blk_frozen BK189.out 0
          have hfz19_1 := blk_frozen BK189.out 1
          have hfz19_2 := blk_frozen BK189.out 2
          have hfz19_3 := blk_frozen BK189.out 3
          have hfz19_4 := blk_frozen BK189.out 4
          go_wp2_with (first | ((with_reducible refine gate_callee (f := 16) rfl ?_); refine goesL_ (some 6) rfl rfl Try.func16 (by kernel_rfl) rfl #[.agg #[.int .i64 a0_0, .int .i64 a0_1, .slice A0_2 l0_2.length c0_2, .slice A0_3 l0_3.length c0_3, .slice A0_4 l0_4.length c0_4]] rfl (by (try simp only [List.map_toArray, List.map_cons, List.map_nil]); first | done | rfl | (simp only [List.length_drop, List.length_take]; rfl)) ?_; (with_reducible refine (cutroomref07_Formed.calls a0_0 a0_1 _ _ l0_2 _ _ l0_3 _ _ l0_4 true _ ?side1 ?side2 ?side3 ?side4 ?side5 ?side6 A6.out).mono ?_); (case side1 => repeat (first | exact (Kd.C_below HR0_2.out HB.out) | (with_reducible refine Kd.C_alloc ?_ _) | (with_reducible refine Kd.C_drewN ?_ _) | (with_reducible refine Kd.C_drew ?_))); (case side2 => exact HC0_2.out); (case side3 => repeat (first | exact (Kd.C_below HR0_3.out HB.out) | (with_reducible refine Kd.C_alloc ?_ _) | (with_reducible refine Kd.C_drewN ?_ _) | (with_reducible refine Kd.C_drew ?_))); (case side4 => exact HC0_3.out); (case side5 => repeat (first | exact (Kd.C_below HR0_4.out HB.out) | (with_reducible refine Kd.C_alloc ?_ _) | (with_reducible refine Kd.C_drewN ?_ _) | (with_reducible refine Kd.C_drew ?_))); (case side6 => exact HC0_4.out); rintro e w20 ⟨rfl, hb⟩; refine ⟨_, rfl, ?_⟩; have n0_ := Aside0.mk (blk_below (g := gb189) (o := .cells #[.int .i64 a0_0, .int .i64 a0_1, .slice A0_2 l0_2.length c0_2, .slice A0_3 l0_3.length c0_3, .slice A0_4 l0_4.length c0_4] 24 (0, 0)) (by (with_reducible repeat (first | refine blk_drewN ?_ _ | refine blk_drew ?_ | refine blk_alloc ?_ _)); exact BK189.out) hb); have n1_ := Aside0.mk (blk_below (g := gb190) (o := .cells #[.int .i64 a1_0, .int .i64 a1_1, .slice A1_2 l1_2.length c1_2, .slice A1_3 l1_3.length c1_3, .slice A1_4 l1_4.length c1_4] 24 (0, 0)) (by (with_reducible repeat (first | refine blk_drewN ?_ _ | refine blk_drew ?_ | refine blk_alloc ?_ _)); exact BK190.out) hb); have n2_ := Aside0.mk (below_step (by repeat (first | (with_reducible first | exact HB.out | apply below_alloc | apply pw_below_drewN | apply below_drew1 | refine below_set ?_ GE189.out | refine below_set ?_ GE190.out) | exact HB.out)) hb); clear BK189; clear BK190; clear HB; have BK189 := n0_; have BK190 := n1_; have HB := n2_; clear n0_ n1_ n2_; (try clear hb); (try clear hb2); (try clear hk); (try clear hi); have hcz21_0 : w20.cell? ⟨gb190, 0, none⟩ = some (.int .i64 a1_0) := (blk_cell BK190.out 0).trans rfl; have hcz21_1 : w20.cell? ⟨gb190, 1, none⟩ = some (.int .i64 a1_1) := (blk_cell BK190.out 1).trans rfl; have hcz21_2 : w20.cell? ⟨gb190, 2, none⟩ = some (.slice A1_2 l1_2.length c1_2) := (blk_cell BK190.out 2).trans rfl; have hcz21_3 : w20.cell? ⟨gb190, 3, none⟩ = some (.slice A1_3 l1_3.length c1_3) := (blk_cell BK190.out 3).trans rfl; have hcz21_4 : w20.cell? ⟨gb190, 4, none⟩ = some (.slice A1_4 l1_4.length c1_4) := (blk_cell BK190.out 4).trans rfl; have hfz21_0 := blk_frozen BK190.out 0; have hfz21_1 := blk_frozen BK190.out 1; have hfz21_2 := blk_frozen BK190.out 2; have hfz21_3 := blk_frozen BK190.out 3; have hfz21_4 := blk_frozen BK190.out 4) | (go_at_call 16; (with_reducible refine (cutroomref07_Formed.calls a1_0 a1_1 _ _ l1_2 _ _ l1_3 _ _ l1_4 true _ ?side1 ?side2 ?side3 ?side4 ?side5 ?side6 A8.out).mono ?_); (case side1 => repeat (first | exact (Kd.C_below HR1_2.out HB.out) | (with_reducible refine Kd.C_alloc ?_ _) | (with_reducible refine Kd.C_drewN ?_ _) | (with_reducible refine Kd.C_drew ?_))); (case side2 => exact HC1_2.out); (case side3 => repeat (first | exact (Kd.C_below HR1_3.out HB.out) | (with_reducible refine Kd.C_alloc ?_ _) | (with_reducible refine Kd.C_drewN ?_ _) | (with_reducible refine Kd.C_drew ?_))); (case side4 => exact HC1_3.out); (case side5 => repeat (first | exact (Kd.C_below HR1_4.out HB.out) | (with_reducible refine Kd.C_alloc ?_ _) | (with_reducible refine Kd.C_drewN ?_ _) | (with_reducible refine Kd.C_drew ?_))); (case side6 => exact HC1_4.out); rintro e w22 ⟨rfl, hb⟩; have n0_ := Aside0.mk (blk_below (g := gb189) (o := .cells #[.int .i64 a0_0, .int .i64 a0_1, .slice A0_2 l0_2.length c0_2, .slice A0_3 l0_3.length c0_3, .slice A0_4 l0_4.length c0_4] 24 (0, 0)) (by (with_reducible repeat (first | refine blk_drewN ?_ _ | refine blk_drew ?_ | refine blk_alloc ?_ _)); exact BK189.out) hb); have n1_ := Aside0.mk (blk_below (g := gb190) (o := .cells #[.int .i64 a1_0, .int .i64 a1_1, .slice A1_2 l1_2.length c1_2, .slice A1_3 l1_3.length c1_3, .slice A1_4 l1_4.length c1_4] 24 (0, 0)) (by (with_reducible repeat (first | refine blk_drewN ?_ _ | refine blk_drew ?_ | refine blk_alloc ?_ _)); exact BK190.out) hb); have n2_ := Aside0.mk (below_step (by repeat (first | (with_reducible first | exact HB.out | apply below_alloc | apply pw_below_drewN | apply below_drew1 | refine below_set ?_ GE189.out | refine below_set ?_ GE190.out) | exact HB.out)) hb); clear BK189; clear BK190; clear HB; have BK189 := n0_; have BK190 := n1_; have HB := n2_; clear n0_ n1_ n2_; (try clear hb); (try clear hb2); (try clear hk); (try clear hi); have hcz23_0 : w22.cell? ⟨gb189, 0, none⟩ = some (.int .i64 a0_0) := (blk_cell BK189.out 0).trans rfl; have hcz23_1 : w22.cell? ⟨gb189, 1, none⟩ = some (.int .i64 a0_1) := (blk_cell BK189.out 1).trans rfl; have hcz23_2 : w22.cell? ⟨gb189, 2, none⟩ = some (.slice A0_2 l0_2.length c0_2) := (blk_cell BK189.out 2).trans rfl; have hcz23_3 : w22.cell? ⟨gb189, 3, none⟩ = some (.slice A0_3 l0_3.length c0_3) := (blk_cell BK189.out 3).trans rfl; have hcz23_4 : w22.cell? ⟨gb189, 4, none⟩ = some (.slice A0_4 l0_4.length c0_4) := (blk_cell BK189.out 4).trans rfl; have hfz23_0 := blk_frozen BK189.out 0; have hfz23_1 := blk_frozen BK189.out 1; have hfz23_2 := blk_frozen BK189.out 2; have hfz23_3 := blk_frozen BK189.out 3; have hfz23_4 := blk_frozen BK189.out 4; have hcz24_0 : w22.cell? ⟨gb190, 0, none⟩ = some (.int .i64 a1_0) := (blk_cell BK190.out 0).trans rfl; have hcz24_1 : w22.cell? ⟨gb190, 1, none⟩ = some (.int .i64 a1_1) := (blk_cell BK190.out 1).trans rfl; have hcz24_2 : w22.cell? ⟨gb190, 2, none⟩ = some (.slice A1_2 l1_2.length c1_2) := (blk_cell BK190.out 2).trans rfl; have hcz24_3 : w22.cell? ⟨gb190, 3, none⟩ = some (.slice A1_3 l1_3.length c1_3) := (blk_cell BK190.out 3).trans rfl; have hcz24_4 : w22.cell? ⟨gb190, 4, none⟩ = some (.slice A1_4 l1_4.length c1_4) := (blk_cell BK190.out 4).trans rfl; have hfz24_0 := blk_frozen BK190.out 0; have hfz24_1 := blk_frozen BK190.out 1; have hfz24_2 := blk_frozen BK190.out 2; have hfz24_3 := blk_frozen BK190.out 3; have hfz24_4 := blk_frozen BK190.out 4))
          go_meet
          case rel => exact ⟨_, (true), (by first | rfl | (simp; done) | (simp [*]; done)), H', ⟨by first | omega | exact Nat.le_refl _⟩, ⟨by (with_reducible repeat (first | refine blk_drewN ?_ _ | refine blk_drew ?_ | refine blk_alloc ?_ _)); exact BK189.out⟩, ⟨by (with_reducible repeat (first | refine blk_drewN ?_ _ | refine blk_drew ?_ | refine blk_alloc ?_ _)); exact BK190.out⟩, ⟨by repeat (first | (with_reducible first | exact HB.out | apply below_alloc | apply pw_below_drewN | apply below_drew1 | refine below_set ?_ GE189.out | refine below_set ?_ GE190.out) | exact HB.out)⟩⟩
      · replace c9 := Bool.eq_false_iff.mpr c9
        subst c9
        have H1 : (cutroomref07_Distance.j0 k true a0_0 a0_1 l0_2 l0_3 l0_4 a1_0 a1_1 l1_2 l1_3 l1_4) = some r := by rw [if_neg (show ¬ (false = true) by decide)] at H; exact H
        clear H
        have H := H1
        clear H1
        have H' := Aside0.mk H
        clear H
        have hnb25 := NB189_190.out
        have hnc25 := NB190_189.out
        have hcz26_0 : w5.cell? ⟨gb189, 0, none⟩ = some (.int .i64 a0_0) := (blk_cell BK189.out 0).trans rfl
        have hcz26_1 : w5.cell? ⟨gb189, 1, none⟩ = some (.int .i64 a0_1) := (blk_cell BK189.out 1).trans rfl
        have hcz26_2 : w5.cell? ⟨gb189, 2, none⟩ = some (.slice A0_2 l0_2.length c0_2) := (blk_cell BK189.out 2).trans rfl
        have hcz26_3 : w5.cell? ⟨gb189, 3, none⟩ = some (.slice A0_3 l0_3.length c0_3) := (blk_cell BK189.out 3).trans rfl
        have hcz26_4 : w5.cell? ⟨gb189, 4, none⟩ = some (.slice A0_4 l0_4.length c0_4) := (blk_cell BK189.out 4).trans rfl
        have hfz26_0 := blk_frozen BK189.out 0
        have hfz26_1 := blk_frozen BK189.out 1
        have hfz26_2 := blk_frozen BK189.out 2
        have hfz26_3 := blk_frozen BK189.out 3
        have hfz26_4 := blk_frozen BK189.out 4
        go_wp2_with (first | ((with_reducible refine gate_callee (f := 16) rfl ?_); refine goesL_ (some 6) rfl rfl Try.func16 (by kernel_rfl) rfl #[.agg #[.int .i64 a0_0, .int .i64 a0_1, .slice A0_2 l0_2.length c0_2, .slice A0_3 l0_3.length c0_3, .slice A0_4 l0_4.length c0_4]] rfl (by (try simp only [List.map_toArray, List.map_cons, List.map_nil]); first | done | rfl | (simp only [List.length_drop, List.length_take]; rfl)) ?_; (with_reducible refine (cutroomref07_Formed.calls a0_0 a0_1 _ _ l0_2 _ _ l0_3 _ _ l0_4 true _ ?side1 ?side2 ?side3 ?side4 ?side5 ?side6 A6.out).mono ?_); (case side1 => repeat (first | exact (Kd.C_below HR0_2.out HB.out) | (with_reducible refine Kd.C_alloc ?_ _) | (with_reducible refine Kd.C_drewN ?_ _) | (with_reducible refine Kd.C_drew ?_))); (case side2 => exact HC0_2.out); (case side3 => repeat (first | exact (Kd.C_below HR0_3.out HB.out) | (with_reducible refine Kd.C_alloc ?_ _) | (with_reducible refine Kd.C_drewN ?_ _) | (with_reducible refine Kd.C_drew ?_))); (case side4 => exact HC0_3.out); (case side5 => repeat (first | exact (Kd.C_below HR0_4.out HB.out) | (with_reducible refine Kd.C_alloc ?_ _) | (with_reducible refine Kd.C_drewN ?_ _) | (with_reducible refine Kd.C_drew ?_))); (case side6 => exact HC0_4.out); rintro e w27 ⟨rfl, hb⟩; refine ⟨_, rfl, ?_⟩; have n0_ := Aside0.mk (blk_below (g := gb189) (o := .cells #[.int .i64 a0_0, .int .i64 a0_1, .slice A0_2 l0_2.length c0_2, .slice A0_3 l0_3.length c0_3, .slice A0_4 l0_4.length c0_4] 24 (0, 0)) (by (with_reducible repeat (first | refine blk_drewN ?_ _ | refine blk_drew ?_ | refine blk_alloc ?_ _)); exact BK189.out) hb); have n1_ := Aside0.mk (blk_below (g := gb190) (o := .cells #[.int .i64 a1_0, .int .i64 a1_1, .slice A1_2 l1_2.length c1_2, .slice A1_3 l1_3.length c1_3, .slice A1_4 l1_4.length c1_4] 24 (0, 0)) (by (with_reducible repeat (first | refine blk_drewN ?_ _ | refine blk_drew ?_ | refine blk_alloc ?_ _)); exact BK190.out) hb); have n2_ := Aside0.mk (below_step (by repeat (first | (with_reducible first | exact HB.out | apply below_alloc | apply pw_below_drewN | apply below_drew1 | refine below_set ?_ GE189.out | refine below_set ?_ GE190.out) | exact HB.out)) hb); clear BK189; clear BK190; clear HB; have BK189 := n0_; have BK190 := n1_; have HB := n2_; clear n0_ n1_ n2_; (try clear hb); (try clear hb2); (try clear hk); (try clear hi); have hcz28_0 : w27.cell? ⟨gb190, 0, none⟩ = some (.int .i64 a1_0) := (blk_cell BK190.out 0).trans rfl; have hcz28_1 : w27.cell? ⟨gb190, 1, none⟩ = some (.int .i64 a1_1) := (blk_cell BK190.out 1).trans rfl; have hcz28_2 : w27.cell? ⟨gb190, 2, none⟩ = some (.slice A1_2 l1_2.length c1_2) := (blk_cell BK190.out 2).trans rfl; have hcz28_3 : w27.cell? ⟨gb190, 3, none⟩ = some (.slice A1_3 l1_3.length c1_3) := (blk_cell BK190.out 3).trans rfl; have hcz28_4 : w27.cell? ⟨gb190, 4, none⟩ = some (.slice A1_4 l1_4.length c1_4) := (blk_cell BK190.out 4).trans rfl; have hfz28_0 := blk_frozen BK190.out 0; have hfz28_1 := blk_frozen BK190.out 1; have hfz28_2 := blk_frozen BK190.out 2; have hfz28_3 := blk_frozen BK190.out 3; have hfz28_4 := blk_frozen BK190.out 4) | (go_at_call 16; (with_reducible refine (cutroomref07_Formed.calls a1_0 a1_1 _ _ l1_2 _ _ l1_3 _ _ l1_4 false _ ?side1 ?side2 ?side3 ?side4 ?side5 ?side6 A8.out).mono ?_); (case side1 => repeat (first | exact (Kd.C_below HR1_2.out HB.out) | (with_reducible refine Kd.C_alloc ?_ _) | (with_reducible refine Kd.C_drewN ?_ _) | (with_reducible refine Kd.C_drew ?_))); (case side2 => exact HC1_2.out); (case side3 => repeat (first | exact (Kd.C_below HR1_3.out HB.out) | (with_reducible refine Kd.C_alloc ?_ _) | (with_reducible refine Kd.C_drewN ?_ _) | (with_reducible refine Kd.C_drew ?_))); (case side4 => exact HC1_3.out); (case side5 => repeat (first | exact (Kd.C_below HR1_4.out HB.out) | (with_reducible refine Kd.C_alloc ?_ _) | (with_reducible refine Kd.C_drewN ?_ _) | (with_reducible refine Kd.C_drew ?_))); (case side6 => exact HC1_4.out); rintro e w29 ⟨rfl, hb⟩; have n0_ := Aside0.mk (blk_below (g := gb189) (o := .cells #[.int .i64 a0_0, .int .i64 a0_1, .slice A0_2 l0_2.length c0_2, .slice A0_3 l0_3.length c0_3, .slice A0_4 l0_4.length c0_4] 24 (0, 0)) (by (with_reducible repeat (first | refine blk_drewN ?_ _ | refine blk_drew ?_ | refine blk_alloc ?_ _)); exact BK189.out) hb); have n1_ := Aside0.mk (blk_below (g := gb190) (o := .cells #[.int .i64 a1_0, .int .i64 a1_1, .slice A1_2 l1_2.length c1_2, .slice A1_3 l1_3.length c1_3, .slice A1_4 l1_4.length c1_4] 24 (0, 0)) (by (with_reducible repeat (first | refine blk_drewN ?_ _ | refine blk_drew ?_ | refine blk_alloc ?_ _)); exact BK190.out) hb); have n2_ := Aside0.mk (below_step (by repeat (first | (with_reducible first | exact HB.out | apply below_alloc | apply pw_below_drewN | apply below_drew1 | refine below_set ?_ GE189.out | refine below_set ?_ GE190.out) | exact HB.out)) hb); clear BK189; clear BK190; clear HB; have BK189 := n0_; have BK190 := n1_; have HB := n2_; clear n0_ n1_ n2_; (try clear hb); (try clear hb2); (try clear hk); (try clear hi)))
        go_meet
        case rel => exact ⟨_, (true), (by first | rfl | (simp; done) | (simp [*]; done)), H', ⟨by first | omega | exact Nat.le_refl _⟩, ⟨by (with_reducible repeat (first | refine blk_drewN ?_ _ | refine blk_drew ?_ | refine blk_alloc ?_ _)); exact BK189.out⟩, ⟨by (with_reducible repeat (first | refine blk_drewN ?_ _ | refine blk_drew ?_ | refine blk_alloc ?_ _)); exact BK190.out⟩, ⟨by repeat (first | (with_reducible first | exact HB.out | apply below_alloc | apply pw_below_drewN | apply below_drew1 | refine below_set ?_ GE189.out | refine below_set ?_ GE190.out) | exact HB.out)⟩⟩
    · replace c7 := Bool.eq_false_iff.mpr c7
      subst c7
      have H1 : (cutroomref07_Distance.j0 k true a0_0 a0_1 l0_2 l0_3 l0_4 a1_0 a1_1 l1_2 l1_3 l1_4) = some r := by rw [if_neg (show ¬ (false = true) by decide)] at H; exact H
      clear H
      have H := H1
      clear H1
      have H' := Aside0.mk H
      clear H
      have hnb30 := NB189_190.out
      have hnc30 := NB190_189.out
      have hcz31_0 : w5.cell? ⟨gb189, 0, none⟩ = some (.int .i64 a0_0) := (blk_cell BK189.out 0).trans rfl
      have hcz31_1 : w5.cell? ⟨gb189, 1, none⟩ = some (.int .i64 a0_1) := (blk_cell BK189.out 1).trans rfl
      have hcz31_2 : w5.cell? ⟨gb189, 2, none⟩ = some (.slice A0_2 l0_2.length c0_2) := (blk_cell BK189.out 2).trans rfl
      have hcz31_3 : w5.cell? ⟨gb189, 3, none⟩ = some (.slice A0_3 l0_3.length c0_3) := (blk_cell BK189.out 3).trans rfl
      have hcz31_4 : w5.cell? ⟨gb189, 4, none⟩ = some (.slice A0_4 l0_4.length c0_4) := (blk_cell BK189.out 4).trans rfl
      have hfz31_0 := blk_frozen BK189.out 0
      have hfz31_1 := blk_frozen BK189.out 1
      have hfz31_2 := blk_frozen BK189.out 2
      have hfz31_3 := blk_frozen BK189.out 3
      have hfz31_4 := blk_frozen BK189.out 4
      go_wp2_with (first | ((with_reducible refine gate_callee (f := 16) rfl ?_); refine goesL_ (some 6) rfl rfl Try.func16 (by kernel_rfl) rfl #[.agg #[.int .i64 a0_0, .int .i64 a0_1, .slice A0_2 l0_2.length c0_2, .slice A0_3 l0_3.length c0_3, .slice A0_4 l0_4.length c0_4]] rfl (by (try simp only [List.map_toArray, List.map_cons, List.map_nil]); first | done | rfl | (simp only [List.length_drop, List.length_take]; rfl)) ?_; (with_reducible refine (cutroomref07_Formed.calls a0_0 a0_1 _ _ l0_2 _ _ l0_3 _ _ l0_4 false _ ?side1 ?side2 ?side3 ?side4 ?side5 ?side6 A6.out).mono ?_); (case side1 => repeat (first | exact (Kd.C_below HR0_2.out HB.out) | (with_reducible refine Kd.C_alloc ?_ _) | (with_reducible refine Kd.C_drewN ?_ _) | (with_reducible refine Kd.C_drew ?_))); (case side2 => exact HC0_2.out); (case side3 => repeat (first | exact (Kd.C_below HR0_3.out HB.out) | (with_reducible refine Kd.C_alloc ?_ _) | (with_reducible refine Kd.C_drewN ?_ _) | (with_reducible refine Kd.C_drew ?_))); (case side4 => exact HC0_3.out); (case side5 => repeat (first | exact (Kd.C_below HR0_4.out HB.out) | (with_reducible refine Kd.C_alloc ?_ _) | (with_reducible refine Kd.C_drewN ?_ _) | (with_reducible refine Kd.C_drew ?_))); (case side6 => exact HC0_4.out); rintro e w32 ⟨rfl, hb⟩; refine ⟨_, rfl, ?_⟩; have n0_ := Aside0.mk (blk_below (g := gb189) (o := .cells #[.int .i64 a0_0, .int .i64 a0_1, .slice A0_2 l0_2.length c0_2, .slice A0_3 l0_3.length c0_3, .slice A0_4 l0_4.length c0_4] 24 (0, 0)) (by (with_reducible repeat (first | refine blk_drewN ?_ _ | refine blk_drew ?_ | refine blk_alloc ?_ _)); exact BK189.out) hb); have n1_ := Aside0.mk (blk_below (g := gb190) (o := .cells #[.int .i64 a1_0, .int .i64 a1_1, .slice A1_2 l1_2.length c1_2, .slice A1_3 l1_3.length c1_3, .slice A1_4 l1_4.length c1_4] 24 (0, 0)) (by (with_reducible repeat (first | refine blk_drewN ?_ _ | refine blk_drew ?_ | refine blk_alloc ?_ _)); exact BK190.out) hb); have n2_ := Aside0.mk (below_step (by repeat (first | (with_reducible first | exact HB.out | apply below_alloc | apply pw_below_drewN | apply below_drew1 | refine below_set ?_ GE189.out | refine below_set ?_ GE190.out) | exact HB.out)) hb); clear BK189; clear BK190; clear HB; have BK189 := n0_; have BK190 := n1_; have HB := n2_; clear n0_ n1_ n2_; (try clear hb); (try clear hb2); (try clear hk); (try clear hi)))
      go_meet
      case rel => exact ⟨_, (true), (by first | rfl | (simp; done) | (simp [*]; done)), H', ⟨by first | omega | exact Nat.le_refl _⟩, ⟨by (with_reducible repeat (first | refine blk_drewN ?_ _ | refine blk_drew ?_ | refine blk_alloc ?_ _)); exact BK189.out⟩, ⟨by (with_reducible repeat (first | refine blk_drewN ?_ _ | refine blk_drew ?_ | refine blk_alloc ?_ _)); exact BK190.out⟩, ⟨by repeat (first | (with_reducible first | exact HB.out | apply below_alloc | apply pw_below_drewN | apply below_drew1 | refine below_set ?_ GE189.out | refine below_set ?_ GE190.out) | exact HB.out)⟩⟩
  case rest =>
    clear HC3
    try clear c1
    try clear c2
    try clear p2
    try clear c3
    try clear c7
    try clear c9
    try clear c10
    try clear c10b0
    try clear c10b1
    try clear c11
    try clear c16
    try clear c18
    try clear c25
    try clear c30
    try clear hcz12_0
    try clear hcz12_1
    try clear hcz12_2
    try clear hcz12_3
    try clear hcz12_4
    try clear hcz14_0
    try clear hcz14_1
    try clear hcz14_2
    try clear hcz14_3
    try clear hcz14_4
    try clear hcz16_0
    try clear hcz16_1
    try clear hcz16_2
    try clear hcz16_3
    try clear hcz16_4
    try clear hcz17_0
    try clear hcz17_1
    try clear hcz17_2
    try clear hcz17_3
    try clear hcz17_4
    try clear hcz19_0
    try clear hcz19_1
    try clear hcz19_2
    try clear hcz19_3
    try clear hcz19_4
    try clear hcz21_0
    try clear hcz21_1
    try clear hcz21_2
    try clear hcz21_3
    try clear hcz21_4
    try clear hcz23_0
    try clear hcz23_1
    try clear hcz23_2
    try clear hcz23_3
    try clear hcz23_4
    try clear hcz24_0
    try clear hcz24_1
    try clear hcz24_2
    try clear hcz24_3
    try clear hcz24_4
    try clear hcz26_0
    try clear hcz26_1
    try clear hcz26_2
    try clear hcz26_3
    try clear hcz26_4
    try clear hcz28_0
    try clear hcz28_1
    try clear hcz28_2
    try clear hcz28_3
    try clear hcz28_4
    try clear hcz31_0
    try clear hcz31_1
    try clear hcz31_2
    try clear hcz31_3
    try clear hcz31_4
    try clear hfz12_0
    try clear hfz12_1
    try clear hfz12_2
    try clear hfz12_3
    try clear hfz12_4
    try clear hfz14_0
    try clear hfz14_1
    try clear hfz14_2
    try clear hfz14_3
    try clear hfz14_4
    try clear hfz16_0
    try clear hfz16_1
    try clear hfz16_2
    try clear hfz16_3
    try clear hfz16_4
    try clear hfz17_0
    try clear hfz17_1
    try clear hfz17_2
    try clear hfz17_3
    try clear hfz17_4
    try clear hfz19_0
    try clear hfz19_1
    try clear hfz19_2
    try clear hfz19_3
    try clear hfz19_4
    try clear hfz21_0
    try clear hfz21_1
    try clear hfz21_2
    try clear hfz21_3
    try clear hfz21_4
    try clear hfz23_0
    try clear hfz23_1
    try clear hfz23_2
    try clear hfz23_3
    try clear hfz23_4
    try clear hfz24_0
    try clear hfz24_1
    try clear hfz24_2
    try clear hfz24_3
    try clear hfz24_4
    try clear hfz26_0
    try clear hfz26_1
    try clear hfz26_2
    try clear hfz26_3
    try clear hfz26_4
    try clear hfz28_0
    try clear hfz28_1
    try clear hfz28_2
    try clear hfz28_3
    try clear hfz28_4
    try clear hfz31_0
    try clear hfz31_1
    try clear hfz31_2
    try clear hfz31_3
    try clear hfz31_4
    obtain ⟨kq, x26_2, rfl, HA, HJ2, BK189, BK190, HB⟩ := hcut
    cases kq with
    | zero => exact absurd HA.out (by simp [cutroomref07_Distance.j0])
    | succ kj2 =>
      have H := HA.out
      clear HA
      simp only [cutroomref07_Distance.j0] at H
      by_cases c33 : x26_2 = true
      · subst c33
        have H1 : (some (-1)) = some r := by rw [if_pos rfl] at H; exact H
        clear H
        have H := H1
        clear H1
        obtain rfl := Option.some.inj H
        go_wp2
        go_ret
        exact ⟨by first | rfl | (simp [errW_none, errW_some] <;> rfl) | (simp [*, errW_none, errW_some] <;> rfl), by repeat (first | (with_reducible first | exact HB.out | apply below_alloc | apply pw_below_drewN | apply below_drew1 | refine below_set ?_ GE189.out | refine below_set ?_ GE190.out) | exact HB.out)⟩
      · replace c33 := Bool.eq_false_iff.mpr c33
        subst c33
        have H1 : ((cutroomref07_apart.f kj2 l0_2 l1_2).bind fun t193 => ((cutroomref07_apart.f kj2 l0_3 l1_3).bind fun t194 => ((cutroomref07_apart.f kj2 l0_4 l1_4).bind fun t195 => (some (mx (mx t193 t194) t195))))) = some r := by rw [if_neg (show ¬ (false = true) by decide)] at H; exact H
        clear H
        have H := H1
        clear H1
        replace H := Option.bind_eq_some_iff.mp H
        obtain ⟨t193, A340, H⟩ := H
        replace H : ((cutroomref07_apart.f kj2 l0_3 l1_3).bind fun t194 => ((cutroomref07_apart.f kj2 l0_4 l1_4).bind fun t195 => (some (mx (mx t193 t194) t195)))) = some r := H
        have A34 := Aside0.mk A340
        clear A340
        replace H := Option.bind_eq_some_iff.mp H
        obtain ⟨t194, A350, H⟩ := H
        replace H : ((cutroomref07_apart.f kj2 l0_4 l1_4).bind fun t195 => (some (mx (mx t193 t194) t195))) = some r := H
        have A35 := Aside0.mk A350
        clear A350
        replace H := Option.bind_eq_some_iff.mp H
        obtain ⟨t195, A360, H⟩ := H
        replace H : (some (mx (mx t193 t194) t195)) = some r := H
        have A36 := Aside0.mk A360
        clear A360
        obtain ⟨ji37, hji37⟩ : ∃ j_ : Int, (mx t193 t194) = j_ := ⟨_, rfl⟩
        replace H : (some (mx (ji37) t195)) = some r := by first | (rw [hji37] at H; exact H) | (simp only [hji37] at H ⊢; exact H)
        (try rw [hji37] at A34)
        (try rw [hji37] at A35)
        (try rw [hji37] at A36)
        have hji37_ : (if t193 < t194 then t194 else t193) = ji37 := hji37
        obtain ⟨ji38, hji38⟩ : ∃ j_ : Int, (mx (ji37) t195) = j_ := ⟨_, rfl⟩
        replace H : (some ji38) = some r := by first | (rw [hji38] at H; exact H) | (simp only [hji38] at H ⊢; exact H)
        (try rw [hji38] at A34)
        (try rw [hji38] at A35)
        (try rw [hji38] at A36)
        have hji38_ : (if (ji37) < t195 then t195 else (ji37)) = ji38 := hji38
        obtain rfl := Option.some.inj H
        try go_wp2
        have n0_ := Aside0.mk (blk_drew BK189.out)
        have n1_ := Aside0.mk (blk_drew BK190.out)
        have n2_ := Aside0.mk (below_drew1 HB.out)
        clear BK189
        clear BK190
        clear HB
        have BK189 := n0_
        have BK190 := n1_
        have HB := n2_
        clear n0_ n1_ n2_
        refine start_ (n := 17) (S := fun w' => w'.cell? ⟨gb189, 0, none⟩ = some (.int .i64 a0_0) ∧ w'.cell? ⟨gb189, 1, none⟩ = some (.int .i64 a0_1) ∧ w'.cell? ⟨gb189, 2, none⟩ = some (.slice A0_2 l0_2.length c0_2) ∧ w'.cell? ⟨gb189, 3, none⟩ = some (.slice A0_3 l0_3.length c0_3) ∧ w'.cell? ⟨gb189, 4, none⟩ = some (.slice A0_4 l0_4.length c0_4) ∧ w'.cell? ⟨gb190, 0, none⟩ = some (.int .i64 a1_0) ∧ w'.cell? ⟨gb190, 1, none⟩ = some (.int .i64 a1_1) ∧ w'.cell? ⟨gb190, 2, none⟩ = some (.slice A1_2 l1_2.length c1_2) ∧ w'.cell? ⟨gb190, 3, none⟩ = some (.slice A1_3 l1_3.length c1_3) ∧ w'.cell? ⟨gb190, 4, none⟩ = some (.slice A1_4 l1_4.length c1_4)) (ds := []) #[false, false, false, false, false, false, false, false, false, false, false, false, false, false, false, false, false] (by kernel_rfl) rfl rfl ⟨(blk_cell BK189.out 0).trans rfl, (blk_cell BK189.out 1).trans rfl, (blk_cell BK189.out 2).trans rfl, (blk_cell BK189.out 3).trans rfl, (blk_cell BK189.out 4).trans rfl, (blk_cell BK190.out 0).trans rfl, (blk_cell BK190.out 1).trans rfl, (blk_cell BK190.out 2).trans rfl, (blk_cell BK190.out 3).trans rfl, (blk_cell BK190.out 4).trans rfl⟩ (fun hHeld => ?_); refine with_tabW cutroomref07_Distance.tab3 cutroomref07_Distance.bits3 (fun HT_ HW_ => ?_)
        generalize wc.drew = w39 at BK189 BK190 HB hHeld ⊢
        refine pure_ (i := 0) (N := some 27) (v := ?_) (a' := ?_) #[true, false, false, false, false, false, false, false, false, false, false, false, false, false, false, false, false] rfl rfl (any_of HT_.out (by kernel_rfl)) (fun _ _ _ h => h) (Or.inl ⟨by rfl, ?_⟩) ?_ ?_
        rotate_left
        · intro w'
          go_simp
          with_reducible rfl
        rotate_left
        · simp only [Act.put, List.setIfInBounds_toArray, List.set_cons_zero, List.set_cons_succ, i64_w, i32_w]
          rfl
        refine pure_ (i := 2) (N := some 29) (v := ?_) (a' := ?_) #[true, false, true, false, false, false, false, false, false, false, false, false, false, false, false, false, false] rfl rfl (any_of HT_.out (by kernel_rfl)) (fun _ _ _ h => h) (Or.inl ⟨by rfl, ?_⟩) ?_ ?_
        rotate_left
        · intro w'
          go_simp
          with_reducible rfl
        rotate_left
        · simp only [Act.put, List.setIfInBounds_toArray, List.set_cons_zero, List.set_cons_succ, i64_w, i32_w]
          rfl
        refine pure_ (i := 5) (N := some 32) (v := ?_) (a' := ?_) #[true, false, true, false, false, true, false, false, false, false, false, false, false, false, false, false, false] rfl rfl (any_of HT_.out (by kernel_rfl)) (fun _ _ _ h => h) (Or.inl ⟨by rfl, ?_⟩) ?_ ?_
        rotate_left
        · intro w'
          go_simp
          with_reducible rfl
        rotate_left
        · simp only [Act.put, List.setIfInBounds_toArray, List.set_cons_zero, List.set_cons_succ, i64_w, i32_w]
          rfl
        refine pure_ (i := 7) (N := some 34) (v := ?_) (a' := ?_) #[true, false, true, false, false, true, false, true, false, false, false, false, false, false, false, false, false] rfl rfl (any_of HT_.out (by kernel_rfl)) (fun _ _ _ h => h) (Or.inl ⟨by rfl, ?_⟩) ?_ ?_
        rotate_left
        · intro w'
          go_simp
          with_reducible rfl
        rotate_left
        · simp only [Act.put, List.setIfInBounds_toArray, List.set_cons_zero, List.set_cons_succ, i64_w, i32_w]
          rfl
        refine pure_ (i := 10) (N := some 37) (v := ?_) (a' := ?_) #[true, false, true, false, false, true, false, true, false, false, true, false, false, false, false, false, false] rfl rfl (any_of HT_.out (by kernel_rfl)) (fun _ _ _ h => h) (Or.inl ⟨by rfl, ?_⟩) ?_ ?_
        rotate_left
        · intro w'
          go_simp
          with_reducible rfl
        rotate_left
        · simp only [Act.put, List.setIfInBounds_toArray, List.set_cons_zero, List.set_cons_succ, i64_w, i32_w]
          rfl
        refine pure_ (i := 12) (N := some 39) (v := ?_) (a' := ?_) #[true, false, true, false, false, true, false, true, false, false, true, false, true, false, false, false, false] rfl rfl (any_of HT_.out (by kernel_rfl)) (fun _ _ _ h => h) (Or.inl ⟨by rfl, ?_⟩) ?_ ?_
        rotate_left
        · intro w'
          go_simp
          with_reducible rfl
        rotate_left
        · simp only [Act.put, List.setIfInBounds_toArray, List.set_cons_zero, List.set_cons_succ, i64_w, i32_w]
          rfl
        refine take_ (i := 1) (N := some 28) (v := ?_) (a' := ?_) #[true, true, true, false, false, true, false, true, false, false, true, false, true, false, false, false, false] rfl rfl (take_ofW HT_.out HW_.out (by kernel_rfl)) (fun _ _ _ h => h) (Or.inl ⟨by rfl, ?_⟩) hHeld ?_ ?_
        rotate_left
        · rintro w' ⟨s0, s1, s2, s3, s4, s5, s6, s7, s8, s9⟩
          go_simp
          with_reducible rfl
        rotate_left
        · simp only [Act.put, List.setIfInBounds_toArray, List.set_cons_zero, List.set_cons_succ, i64_w, i32_w]
          rfl
        refine take_ (i := 3) (N := some 30) (v := ?_) (a' := ?_) #[true, true, true, true, false, true, false, true, false, false, true, false, true, false, false, false, false] rfl rfl (take_ofW HT_.out HW_.out (by kernel_rfl)) (fun _ _ _ h => h) (Or.inl ⟨by rfl, ?_⟩) hHeld ?_ ?_
        rotate_left
        · rintro w' ⟨s0, s1, s2, s3, s4, s5, s6, s7, s8, s9⟩
          go_simp
          with_reducible rfl
        rotate_left
        · simp only [Act.put, List.setIfInBounds_toArray, List.set_cons_zero, List.set_cons_succ, i64_w, i32_w]
          rfl
        refine take_ (i := 6) (N := some 33) (v := ?_) (a' := ?_) #[true, true, true, true, false, true, true, true, false, false, true, false, true, false, false, false, false] rfl rfl (take_ofW HT_.out HW_.out (by kernel_rfl)) (fun _ _ _ h => h) (Or.inl ⟨by rfl, ?_⟩) hHeld ?_ ?_
        rotate_left
        · rintro w' ⟨s0, s1, s2, s3, s4, s5, s6, s7, s8, s9⟩
          go_simp
          with_reducible rfl
        rotate_left
        · simp only [Act.put, List.setIfInBounds_toArray, List.set_cons_zero, List.set_cons_succ, i64_w, i32_w]
          rfl
        refine take_ (i := 8) (N := some 35) (v := ?_) (a' := ?_) #[true, true, true, true, false, true, true, true, true, false, true, false, true, false, false, false, false] rfl rfl (take_ofW HT_.out HW_.out (by kernel_rfl)) (fun _ _ _ h => h) (Or.inl ⟨by rfl, ?_⟩) hHeld ?_ ?_
        rotate_left
        · rintro w' ⟨s0, s1, s2, s3, s4, s5, s6, s7, s8, s9⟩
          go_simp
          with_reducible rfl
        rotate_left
        · simp only [Act.put, List.setIfInBounds_toArray, List.set_cons_zero, List.set_cons_succ, i64_w, i32_w]
          rfl
        refine take_ (i := 11) (N := some 38) (v := ?_) (a' := ?_) #[true, true, true, true, false, true, true, true, true, false, true, true, true, false, false, false, false] rfl rfl (take_ofW HT_.out HW_.out (by kernel_rfl)) (fun _ _ _ h => h) (Or.inl ⟨by rfl, ?_⟩) hHeld ?_ ?_
        rotate_left
        · rintro w' ⟨s0, s1, s2, s3, s4, s5, s6, s7, s8, s9⟩
          go_simp
          with_reducible rfl
        rotate_left
        · simp only [Act.put, List.setIfInBounds_toArray, List.set_cons_zero, List.set_cons_succ, i64_w, i32_w]
          rfl
        refine take_ (i := 13) (N := some 40) (v := ?_) (a' := ?_) #[true, true, true, true, false, true, true, true, true, false, true, true, true, true, false, false, false] rfl rfl (take_ofW HT_.out HW_.out (by kernel_rfl)) (fun _ _ _ h => h) (Or.inl ⟨by rfl, ?_⟩) hHeld ?_ ?_
        rotate_left
        · rintro w' ⟨s0, s1, s2, s3, s4, s5, s6, s7, s8, s9⟩
          go_simp
          with_reducible rfl
        rotate_left
        · simp only [Act.put, List.setIfInBounds_toArray, List.set_cons_zero, List.set_cons_succ, i64_w, i32_w]
          rfl
        refine one_ (i := 4) (N := some 31) #[true, true, true, true, true, true, true, true, true, false, true, true, true, true, false, false, false] rfl rfl (one_of HT_.out (by kernel_rfl)) (by decide) (fun K hK => ?_)
        refine goes_ Try.func47 (by kernel_rfl) rfl #[.slice A0_2 l0_2.length c0_2, .slice A1_2 l1_2.length c1_2] (by rfl) rfl rfl (by (try simp only [List.map_toArray, List.map_cons, List.map_nil]); first | done | rfl | (simp only [List.length_drop, List.length_take]; rfl)) ?_
        with_reducible refine (cutroomref07_apart.calls kj2 _ _ l0_2 _ _ l1_2 t193 _ ?side1 ?side2 ?side3 ?side4 A34.out).mono ?_
        (case side1 => repeat (first | exact (Kd.C_below HR0_2.out HB.out) | (with_reducible refine Kd.C_alloc ?_ _) | (with_reducible refine Kd.C_drewN ?_ _) | (with_reducible refine Kd.C_drew ?_)))
        (case side2 => exact HC0_2.out)
        (case side3 => repeat (first | exact (Kd.C_below HR1_2.out HB.out) | (with_reducible refine Kd.C_alloc ?_ _) | (with_reducible refine Kd.C_drewN ?_ _) | (with_reducible refine Kd.C_drew ?_)))
        (case side4 => exact HC1_2.out)
        rintro e w40 ⟨rfl, hb⟩
        refine ⟨_, rfl, ?_⟩
        have n0_ := Aside0.mk (blk_below (g := gb189) (o := .cells #[.int .i64 a0_0, .int .i64 a0_1, .slice A0_2 l0_2.length c0_2, .slice A0_3 l0_3.length c0_3, .slice A0_4 l0_4.length c0_4] 24 (0, 0)) (by (with_reducible repeat (first | refine blk_drewN ?_ _ | refine blk_drew ?_ | refine blk_alloc ?_ _)); exact BK189.out) hb)
        have n1_ := Aside0.mk (blk_below (g := gb190) (o := .cells #[.int .i64 a1_0, .int .i64 a1_1, .slice A1_2 l1_2.length c1_2, .slice A1_3 l1_3.length c1_3, .slice A1_4 l1_4.length c1_4] 24 (0, 0)) (by (with_reducible repeat (first | refine blk_drewN ?_ _ | refine blk_drew ?_ | refine blk_alloc ?_ _)); exact BK190.out) hb)
        have n2_ := Aside0.mk (below_step (by repeat (first | (with_reducible first | exact HB.out | apply below_alloc | apply pw_below_drewN | apply below_drew1 | refine below_set ?_ GE189.out | refine below_set ?_ GE190.out) | exact HB.out)) hb)
        clear BK189
        clear BK190
        clear HB
        have BK189 := n0_
        have BK190 := n1_
        have HB := n2_
        clear n0_ n1_ n2_
        (try clear hb)
        (try clear hb2)
        (try clear hk)
        (try clear hi)
        refine hK.out _ _ ⟨(blk_cell BK189.out 0).trans rfl, (blk_cell BK189.out 1).trans rfl, (blk_cell BK189.out 2).trans rfl, (blk_cell BK189.out 3).trans rfl, (blk_cell BK189.out 4).trans rfl, (blk_cell BK190.out 0).trans rfl, (blk_cell BK190.out 1).trans rfl, (blk_cell BK190.out 2).trans rfl, (blk_cell BK190.out 3).trans rfl, (blk_cell BK190.out 4).trans rfl⟩ (fun hHeld => ?_)
        clear hK K
        refine norm_ (a' := ?_) ?_ ?_
        rotate_left
        · show Act.put _ (some 31) _ = _
          simp only [Act.put, List.setIfInBounds_toArray, List.set_cons_zero, List.set_cons_succ, i64_w, i32_w]
          rfl
        refine one_ (i := 9) (N := some 36) #[true, true, true, true, true, true, true, true, true, true, true, true, true, true, false, false, false] rfl rfl (one_of HT_.out (by kernel_rfl)) (by decide) (fun K hK => ?_)
        refine goes_ Try.func47 (by kernel_rfl) rfl #[.slice A0_3 l0_3.length c0_3, .slice A1_3 l1_3.length c1_3] (by rfl) rfl rfl (by (try simp only [List.map_toArray, List.map_cons, List.map_nil]); first | done | rfl | (simp only [List.length_drop, List.length_take]; rfl)) ?_
        with_reducible refine (cutroomref07_apart.calls kj2 _ _ l0_3 _ _ l1_3 t194 _ ?side1 ?side2 ?side3 ?side4 A35.out).mono ?_
        (case side1 => repeat (first | exact (Kd.C_below HR0_3.out HB.out) | (with_reducible refine Kd.C_alloc ?_ _) | (with_reducible refine Kd.C_drewN ?_ _) | (with_reducible refine Kd.C_drew ?_)))
        (case side2 => exact HC0_3.out)
        (case side3 => repeat (first | exact (Kd.C_below HR1_3.out HB.out) | (with_reducible refine Kd.C_alloc ?_ _) | (with_reducible refine Kd.C_drewN ?_ _) | (with_reducible refine Kd.C_drew ?_)))
        (case side4 => exact HC1_3.out)
        rintro e w41 ⟨rfl, hb⟩
        refine ⟨_, rfl, ?_⟩
        have n0_ := Aside0.mk (blk_below (g := gb189) (o := .cells #[.int .i64 a0_0, .int .i64 a0_1, .slice A0_2 l0_2.length c0_2, .slice A0_3 l0_3.length c0_3, .slice A0_4 l0_4.length c0_4] 24 (0, 0)) (by (with_reducible repeat (first | refine blk_drewN ?_ _ | refine blk_drew ?_ | refine blk_alloc ?_ _)); exact BK189.out) hb)
        have n1_ := Aside0.mk (blk_below (g := gb190) (o := .cells #[.int .i64 a1_0, .int .i64 a1_1, .slice A1_2 l1_2.length c1_2, .slice A1_3 l1_3.length c1_3, .slice A1_4 l1_4.length c1_4] 24 (0, 0)) (by (with_reducible repeat (first | refine blk_drewN ?_ _ | refine blk_drew ?_ | refine blk_alloc ?_ _)); exact BK190.out) hb)
        have n2_ := Aside0.mk (below_step (by repeat (first | (with_reducible first | exact HB.out | apply below_alloc | apply pw_below_drewN | apply below_drew1 | refine below_set ?_ GE189.out | refine below_set ?_ GE190.out) | exact HB.out)) hb)
        clear BK189
        clear BK190
        clear HB
        have BK189 := n0_
        have BK190 := n1_
        have HB := n2_
        clear n0_ n1_ n2_
        (try clear hb)
        (try clear hb2)
        (try clear hk)
        (try clear hi)
        refine hK.out _ _ ⟨(blk_cell BK189.out 0).trans rfl, (blk_cell BK189.out 1).trans rfl, (blk_cell BK189.out 2).trans rfl, (blk_cell BK189.out 3).trans rfl, (blk_cell BK189.out 4).trans rfl, (blk_cell BK190.out 0).trans rfl, (blk_cell BK190.out 1).trans rfl, (blk_cell BK190.out 2).trans rfl, (blk_cell BK190.out 3).trans rfl, (blk_cell BK190.out 4).trans rfl⟩ (fun hHeld => ?_)
        clear hK K
        refine norm_ (a' := ?_) ?_ ?_
        rotate_left
        · show Act.put _ (some 36) _ = _
          simp only [Act.put, List.setIfInBounds_toArray, List.set_cons_zero, List.set_cons_succ, i64_w, i32_w]
          rfl
        refine one_ (i := 14) (N := some 41) #[true, true, true, true, true, true, true, true, true, true, true, true, true, true, true, false, false] rfl rfl (one_of HT_.out (by kernel_rfl)) (by decide) (fun K hK => ?_)
        refine goes_ Try.func47 (by kernel_rfl) rfl #[.slice A0_4 l0_4.length c0_4, .slice A1_4 l1_4.length c1_4] (by rfl) rfl rfl (by (try simp only [List.map_toArray, List.map_cons, List.map_nil]); first | done | rfl | (simp only [List.length_drop, List.length_take]; rfl)) ?_
        with_reducible refine (cutroomref07_apart.calls kj2 _ _ l0_4 _ _ l1_4 t195 _ ?side1 ?side2 ?side3 ?side4 A36.out).mono ?_
        (case side1 => repeat (first | exact (Kd.C_below HR0_4.out HB.out) | (with_reducible refine Kd.C_alloc ?_ _) | (with_reducible refine Kd.C_drewN ?_ _) | (with_reducible refine Kd.C_drew ?_)))
        (case side2 => exact HC0_4.out)
        (case side3 => repeat (first | exact (Kd.C_below HR1_4.out HB.out) | (with_reducible refine Kd.C_alloc ?_ _) | (with_reducible refine Kd.C_drewN ?_ _) | (with_reducible refine Kd.C_drew ?_)))
        (case side4 => exact HC1_4.out)
        rintro e w42 ⟨rfl, hb⟩
        refine ⟨_, rfl, ?_⟩
        have n0_ := Aside0.mk (blk_below (g := gb189) (o := .cells #[.int .i64 a0_0, .int .i64 a0_1, .slice A0_2 l0_2.length c0_2, .slice A0_3 l0_3.length c0_3, .slice A0_4 l0_4.length c0_4] 24 (0, 0)) (by (with_reducible repeat (first | refine blk_drewN ?_ _ | refine blk_drew ?_ | refine blk_alloc ?_ _)); exact BK189.out) hb)
        have n1_ := Aside0.mk (blk_below (g := gb190) (o := .cells #[.int .i64 a1_0, .int .i64 a1_1, .slice A1_2 l1_2.length c1_2, .slice A1_3 l1_3.length c1_3, .slice A1_4 l1_4.length c1_4] 24 (0, 0)) (by (with_reducible repeat (first | refine blk_drewN ?_ _ | refine blk_drew ?_ | refine blk_alloc ?_ _)); exact BK190.out) hb)
        have n2_ := Aside0.mk (below_step (by repeat (first | (with_reducible first | exact HB.out | apply below_alloc | apply pw_below_drewN | apply below_drew1 | refine below_set ?_ GE189.out | refine below_set ?_ GE190.out) | exact HB.out)) hb)
        clear BK189
        clear BK190
        clear HB
        have BK189 := n0_
        have BK190 := n1_
        have HB := n2_
        clear n0_ n1_ n2_
        (try clear hb)
        (try clear hb2)
        (try clear hk)
        (try clear hi)
        refine hK.out _ _ ⟨(blk_cell BK189.out 0).trans rfl, (blk_cell BK189.out 1).trans rfl, (blk_cell BK189.out 2).trans rfl, (blk_cell BK189.out 3).trans rfl, (blk_cell BK189.out 4).trans rfl, (blk_cell BK190.out 0).trans rfl, (blk_cell BK190.out 1).trans rfl, (blk_cell BK190.out 2).trans rfl, (blk_cell BK190.out 3).trans rfl, (blk_cell BK190.out 4).trans rfl⟩ (fun hHeld => ?_)
        clear hK K
        refine norm_ (a' := ?_) ?_ ?_
        rotate_left
        · show Act.put _ (some 41) _ = _
          simp only [Act.put, List.setIfInBounds_toArray, List.set_cons_zero, List.set_cons_succ, i64_w, i32_w]
          rfl
        refine pure_ (i := 15) (N := some 42) (v := ?_) (a' := ?_) #[true, true, true, true, true, true, true, true, true, true, true, true, true, true, true, true, false] rfl rfl (any_of HT_.out (by kernel_rfl)) (fun _ _ _ h => h) (Or.inl ⟨by rfl, ?_⟩) ?_ ?_
        rotate_left
        · intro w'
          go_simp
          with_reducible rfl
        rotate_left
        · simp only [Act.put, List.setIfInBounds_toArray, List.set_cons_zero, List.set_cons_succ, i64_w, i32_w]
          rfl
        refine pure_ (i := 16) (N := some 4) (v := ?_) (a' := ?_) #[true, true, true, true, true, true, true, true, true, true, true, true, true, true, true, true, true] rfl rfl (any_of HT_.out (by kernel_rfl)) (fun _ _ _ h => h) (Or.inl ⟨by rfl, ?_⟩) ?_ ?_
        rotate_left
        · intro w'
          go_simp
          with_reducible rfl
        rotate_left
        · simp only [Act.put, List.setIfInBounds_toArray, List.set_cons_zero, List.set_cons_succ, i64_w, i32_w]
          rfl
        refine done_ (done_of HT_.out (by kernel_rfl)) ?_
        try go_wp2
        go_ret
        exact ⟨by first | rfl | (simp [errW_none, errW_some] <;> rfl) | (simp only [← hji37, ← hji38]; first | rfl | (simp [errW_none, errW_some] <;> rfl)) | (simp [*, errW_none, errW_some] <;> rfl), by repeat (first | (with_reducible first | exact HB.out | apply below_alloc | apply pw_below_drewN | apply below_drew1 | refine below_set ?_ GE189.out | refine below_set ?_ GE190.out) | exact HB.out)⟩

end Go.Proofs.Ytalnnbokmpppjaa.PPlaneDistance
