-- Written by a program of this session, after the form of the kit's print; each text is checked by Lean alone.
import Derived.Test.YtnihjbcdlgfklaaPMotionMirrorx0
import Derived.Test.YtnihjbcdlgfklaaPMotionMirrorx1
import Derived.Test.YtnihjbcdlgfklaaPMotionMirrorx5
namespace Go.Proofs.Ytnihjbcdlgfklaa.PMotionMirror
open Go.RowKit Go.Proofs.YtnihjbcdlgfklaaW.PrintWords Go.Proofs.YtnihjbcdlgfklaaW.PrintLast Go.Proofs.YtnihjbcdlgfklaaW.PrintMore
attribute [local go_sem] max2_int min2_int max_two min_two max_three min_three max_four min_four   -- for this text's walks alone
set_option linter.unusedVariables false
set_option linter.unusedSimpArgs false

/-! ### motion_predicted: function 33 -/
mutual
def motion_predicted.l0 : Nat → Int → Int → Int → List Int → Int → Int → List Int → Int → Int → Int → Int → Option (List Int)
  | 0, _, _, _, _, _, _, _, _, _, _, _ => none
  | k + 1, x1, x2, x3, x14, x22, x23, x208000, x208001, x208002, x209000, x209001 => if x23 < x22 then (motion_predicted.l1 k x1 x2 x3 x14 x23 x22 x23 x3 0 x208000 x208001 x208002 x209000 x209001) else (some x14)
def motion_predicted.l1 : Nat → Int → Int → Int → List Int → Int → Int → Int → Int → Int → List Int → Int → Int → Int → Int → Option (List Int)
  | 0, _, _, _, _, _, _, _, _, _, _, _, _, _, _ => none
  | k + 1, x1, x2, x3, x14, x15, x22, x23, x26, x27, x208000, x208001, x208002, x209000, x209001 => if x27 < x26 then ((motion_predicted_1.f (wrap64 ((wrap64 (2 * (wrap64 (x1 + x27)))) + x209000)) (wrap64 ((wrap64 (2 * (wrap64 (x2 + x15)))) + x209001)) x208000 x208001 x208002).bind fun t212 => (if x14.length < 140737488355328 then (motion_predicted.l1 k x1 x2 x3 (x14 ++ [t212]) x15 x22 x23 x26 (wrap64 (x27 + 1)) x208000 x208001 x208002 x209000 x209001) else (none))) else (motion_predicted.l0 k x1 x2 x3 x14 x22 (wrap64 (x23 + 1)) x208000 x208001 x208002 x209000 x209001)
end
def motion_predicted.f (k : Nat) (l0_0 : List Int) (a0_1 : Int) (a0_2 : Int) (a1 : Int) (a2 : Int) (a3 : Int) (a4 : Int) (a5_0 : Int) (a5_1 : Int) : Option (List Int) := if 0 ≤ (wrap64 (a3 * a4)) then (if (wrap64 (a3 * a4) : Int).toNat ≤ 281474976710656 then (motion_predicted.l0 k a1 a2 a3 (([] : List Int)) a4 0 l0_0 a0_1 a0_2 a5_0 a5_1) else (none)) else (none)
theorem motion_predicted.mono_l : ∀ k, (∀ y0 y1 y2 y3 y4 y5 y6 y7 y8 y9 y10, LeO (motion_predicted.l0 k y0 y1 y2 y3 y4 y5 y6 y7 y8 y9 y10) (motion_predicted.l0 (k + 1) y0 y1 y2 y3 y4 y5 y6 y7 y8 y9 y10)) ∧ (∀ y0 y1 y2 y3 y4 y5 y6 y7 y8 y9 y10 y11 y12 y13, LeO (motion_predicted.l1 k y0 y1 y2 y3 y4 y5 y6 y7 y8 y9 y10 y11 y12 y13) (motion_predicted.l1 (k + 1) y0 y1 y2 y3 y4 y5 y6 y7 y8 y9 y10 y11 y12 y13))
  | 0 => ⟨fun _ _ _ _ _ _ _ _ _ _ _ r h => by simp [motion_predicted.l0] at h, fun _ _ _ _ _ _ _ _ _ _ _ _ _ _ r h => by simp [motion_predicted.l1] at h⟩
  | k + 1 => by
    obtain ⟨ih0, ih1⟩ := motion_predicted.mono_l k
    refine ⟨?_, ?_⟩
    · intro y0 y1 y2 y3 y4 y5 y6 y7 y8 y9 y10
      unfold motion_predicted.l0
      repeat' first
      | (with_reducible exact ih0 _ _ _ _ _ _ _ _ _ _ _)
      | (with_reducible exact ih1 _ _ _ _ _ _ _ _ _ _ _ _ _ _)
      | (with_reducible exact LeO.refl _)
      | (with_reducible exact LeO.none _)
      | (with_reducible refine LeO.ite ?_ ?_)
      | (with_reducible refine LeO.bind ?_ (fun _ => ?_))
      | exact ih0 _ _ _ _ _ _ _ _ _ _ _
      | exact ih1 _ _ _ _ _ _ _ _ _ _ _ _ _ _
      | exact LeO.none _
      | refine LeO.ite ?_ ?_
      | refine LeO.bind ?_ (fun _ => ?_)
    · intro y0 y1 y2 y3 y4 y5 y6 y7 y8 y9 y10 y11 y12 y13
      unfold motion_predicted.l1
      repeat' first
      | (with_reducible exact ih0 _ _ _ _ _ _ _ _ _ _ _)
      | (with_reducible exact ih1 _ _ _ _ _ _ _ _ _ _ _ _ _ _)
      | (with_reducible exact LeO.refl _)
      | (with_reducible exact LeO.none _)
      | (with_reducible refine LeO.ite ?_ ?_)
      | (with_reducible refine LeO.bind ?_ (fun _ => ?_))
      | exact ih0 _ _ _ _ _ _ _ _ _ _ _
      | exact ih1 _ _ _ _ _ _ _ _ _ _ _ _ _ _
      | exact LeO.none _
      | refine LeO.ite ?_ ?_
      | refine LeO.bind ?_ (fun _ => ?_)
theorem motion_predicted.mono : ∀ a0 a1 a2 a3 a4 a5 a6 a7 a8 k, LeO (motion_predicted.f k a0 a1 a2 a3 a4 a5 a6 a7 a8) (motion_predicted.f (k + 1) a0 a1 a2 a3 a4 a5 a6 a7 a8) := by
  intro a0 a1 a2 a3 a4 a5 a6 a7 a8 k
  obtain ⟨ih0, ih1⟩ := motion_predicted.mono_l k
  unfold motion_predicted.f
  repeat' first
      | (with_reducible exact ih0 _ _ _ _ _ _ _ _ _ _ _)
      | (with_reducible exact ih1 _ _ _ _ _ _ _ _ _ _ _ _ _ _)
      | (with_reducible exact LeO.refl _)
      | (with_reducible exact LeO.none _)
      | (with_reducible refine LeO.ite ?_ ?_)
      | (with_reducible refine LeO.bind ?_ (fun _ => ?_))
      | exact ih0 _ _ _ _ _ _ _ _ _ _ _
      | exact ih1 _ _ _ _ _ _ _ _ _ _ _ _ _ _
      | exact LeO.none _
      | refine LeO.ite ?_ ?_
      | refine LeO.bind ?_ (fun _ => ?_)
set_option maxHeartbeats 8000000 in
set_option maxRecDepth 100000 in
theorem motion_predicted.calls (k : Nat) (A0_0 : Option Addr) (c0_0 : Nat) (l0_0 : List Int) (a0_1 : Int) (a0_2 : Int) (a1 : Int) (a2 : Int) (a3 : Int) (a4 : Int) (a5_0 : Int) (a5_1 : Int) (r : List Int) (w : World) (hr0_0 : Kd.C (Kd.int .u8) w A0_0 l0_0.length l0_0) (hc0_0 : l0_0.length ≤ c0_0) (h : motion_predicted.f k l0_0 a0_1 a0_2 a1 a2 a3 a4 a5_0 a5_1 = some r) :
    Calls Try.prog 33 #[.agg #[.slice A0_0 l0_0.length c0_0, .int .i64 a0_1, .int .i64 a0_2], .int .i64 a1, .int .i64 a2, .int .i64 a3, .int .i64 a4, .agg #[.int .i64 a5_0, .int .i64 a5_1]] w fun e w' => ∃ v0_ : Value, e = .returned (v0_) ∧ Kd.R (Kd.int .u8) 5 w' w.heap.size (fun _ => True) v0_ r ∧ Below w.heap.size w w' := by
  have hu54 := Try.underlying54
  have hu32 := Try.underlying32
  have HR0_0 := Aside0.mk hr0_0
  have HC0_0 := Aside0.mk hc0_0
  clear hr0_0 hc0_0
  have HB := Aside0.mk (Below.refl w.heap.size w)
  have H : (if 0 ≤ (wrap64 (a3 * a4)) then (if (wrap64 (a3 * a4) : Int).toNat ≤ 281474976710656 then (motion_predicted.l0 k a1 a2 a3 (([] : List Int)) a4 0 l0_0 a0_1 a0_2 a5_0 a5_1) else (none)) else (none)) = some r := h
  clear h
  obtain ⟨ji7, hji7⟩ : ∃ j_ : Int, (wrap64 (a3 * a4)) = j_ := ⟨_, rfl⟩
  replace H : (if 0 ≤ (ji7) then (if (ji7 : Int).toNat ≤ 281474976710656 then (motion_predicted.l0 k a1 a2 a3 (([] : List Int)) a4 0 l0_0 a0_1 a0_2 a5_0 a5_1) else (none)) else (none)) = some r := by first | (rw [hji7] at H; exact H) | (simp only [hji7] at H ⊢; exact H)
  have hji7w : (IntKind.i64.wrap (a3 * a4)) = ji7 := (i64_w _).trans hji7
  by_cases c8 : 0 ≤ (ji7)
  · rw [if_pos c8] at H
    have c8b0 := eq_true c8
    have c8b1 : decide (0 ≤ (ji7)) = true := decide_eq_true c8
    clear c8
    by_cases c9 : (ji7 : Int).toNat ≤ 281474976710656
    · rw [if_pos c9] at H
      have c9b0 := eq_true c9
      have c9b1 : decide ((ji7 : Int).toNat ≤ 281474976710656) = true := decide_eq_true c9
      clear c9
      obtain ⟨y209, hy209⟩ : ∃ y_ : List Int, y_ = (([] : List Int)) := ⟨_, rfl⟩
      replace H : (motion_predicted.l0 k a1 a2 a3 y209 a4 0 l0_0 a0_1 a0_2 a5_0 a5_1) = some r := by first | (rw [hy209]; with_reducible exact H) | (have H2_ := (Option.bind_some _ _).symm.trans H; rw [hy209]; with_reducible exact H2_) | (have H2_ := (Option.bind_some _ _).symm.trans H; with_reducible exact H2_) | with_reducible exact H | (rw [hy209]; exact H) | exact H
      have Ny209 := Aside0.mk hy209
      clear hy209
      have H' := Aside0.mk H
      clear H
      go_enter Try.func33, Try.ntmps33
      go_wp2_with (first | ((with_reducible refine gate_dst (N := 6) rfl ?_); refine box_event ?hg (N := 6) ?hd (cs := #[.slice A0_0 l0_0.length c0_0, .int .i64 a0_1, .int .i64 a0_2]) (t := 54) ?hr ?_; (case hd => rfl); (case hg => rfl); (case hr => first | (go_simp; done) | (go_simp; rfl)); intro gb207 hg w10 hbox hb; have n0_ := Aside0.mk (below_step (by repeat (first | (with_reducible first | exact HB.out | apply below_alloc | apply pw_below_drewN | apply below_drew1) | exact HB.out)) hb); have n1_ := Aside0.mk (hbox); have n2_ := Aside0.mk ((by rw [hg]; exact (below_size (by repeat (first | (with_reducible first | exact HB.out | apply below_alloc | apply pw_below_drewN | apply below_drew1) | exact HB.out))) : w.heap.size ≤ gb207)); have n3_ := Aside0.mk ((by rw [hg]; exact (below_size (by repeat (first | (with_reducible first | exact HB.out | apply below_alloc | apply pw_below_drewN | apply below_drew1) | exact HB.out))) : w.heap.size ≤ gb207)); clear HB; have HB := n0_; have BK207 := n1_; have GW207 := n2_; have GE207 := n3_; clear n0_ n1_ n2_ n3_; clear hb hbox hg) | ((with_reducible refine gate_dst (N := 11) rfl ?_); refine box_event ?hg (N := 11) ?hd (cs := #[.int .i64 a5_0, .int .i64 a5_1]) (t := 32) ?hr ?_; (case hd => rfl); (case hg => rfl); (case hr => first | (go_simp; done) | (go_simp; rfl)); intro gb208 hg w11 hbox hb; have n0_ := Aside0.mk (blk_below (g := gb207) (o := .cells #[.slice A0_0 l0_0.length c0_0, .int .i64 a0_1, .int .i64 a0_2] 54 (0, 0)) (by (with_reducible repeat (first | refine blk_drewN ?_ _ | refine blk_drew ?_ | refine blk_alloc ?_ _)); exact BK207.out) hb); have n1_ := Aside0.mk (below_step (by repeat (first | (with_reducible first | exact HB.out | apply below_alloc | apply pw_below_drewN | apply below_drew1 | refine below_set ?_ GE207.out) | exact HB.out)) hb); have n2_ := Aside0.mk (hbox); have n3_ := Aside0.mk ((by rw [hg]; exact (below_size (by repeat (first | (with_reducible first | exact HB.out | apply below_alloc | apply pw_below_drewN | apply below_drew1 | refine below_set ?_ GE207.out) | exact HB.out))) : w.heap.size ≤ gb208)); have n4_ := Aside0.mk ((by rw [hg]; exact (below_size (by repeat (first | (with_reducible first | exact HB.out | apply below_alloc | apply pw_below_drewN | apply below_drew1 | refine below_set ?_ GE207.out) | exact HB.out))) : w.heap.size ≤ gb208)); have n5_ := Aside0.mk ((by rw [hg]; exact Nat.ne_of_lt (blk_lt (g := gb207) (o := .cells #[.slice A0_0 l0_0.length c0_0, .int .i64 a0_1, .int .i64 a0_2] 54 (0, 0)) (by (with_reducible repeat (first | refine blk_drewN ?_ _ | refine blk_drew ?_ | refine blk_alloc ?_ _)); exact BK207.out)) : gb207 ≠ gb208)); have n6_ := Aside0.mk ((by rw [hg]; exact Nat.ne_of_gt (blk_lt (g := gb207) (o := .cells #[.slice A0_0 l0_0.length c0_0, .int .i64 a0_1, .int .i64 a0_2] 54 (0, 0)) (by (with_reducible repeat (first | refine blk_drewN ?_ _ | refine blk_drew ?_ | refine blk_alloc ?_ _)); exact BK207.out)) : gb208 ≠ gb207)); clear BK207; clear HB; have BK207 := n0_; have HB := n1_; have BK208 := n2_; have GW208 := n3_; have GE208 := n4_; have NB207_208 := n5_; have NB208_207 := n6_; clear n0_ n1_ n2_ n3_ n4_ n5_ n6_; clear hb hbox hg) | ((with_reducible refine gate_dst (N := 21) rfl ?_); refine R_make0 (Kd.int .u8) _ 5 rfl (N := 21) rfl 22 _ _ rfl ji7 rfl rfl Try.underlying22 (.int .u8 0) 1 info5 (by decide) (ok := fun _ => True) trivial (of_decide_eq_true (by first | (with_reducible assumption) | assumption)) (Nat.le_trans (Nat.mul_le_mul_right _ (of_decide_eq_true (by first | (with_reducible assumption) | assumption) : ji7.toNat ≤ 281474976710656)) (by omega)) (Below.refl _ _) (Nat.le_refl _) ?_; intro v210 w12 ho13 hb hg_ hnew_; clear hg_ hnew_; (first | rw [← Ny209.out] at ho13 | (simp only [Int.reduceToNat] at ho13; rw [← Ny209.out] at ho13)); have n0_ := Aside0.mk (Kd.R_lower ho13 (below_size (by repeat (first | (with_reducible first | exact HB.out | apply below_alloc | apply pw_below_drewN | apply below_drew1 | refine below_set ?_ GE207.out | refine below_set ?_ GE208.out) | exact HB.out)))); have n1_ := Aside0.mk (blk_below (g := gb207) (o := .cells #[.slice A0_0 l0_0.length c0_0, .int .i64 a0_1, .int .i64 a0_2] 54 (0, 0)) (by (with_reducible repeat (first | refine blk_drewN ?_ _ | refine blk_drew ?_ | refine blk_alloc ?_ _)); exact BK207.out) hb); have n2_ := Aside0.mk (blk_below (g := gb208) (o := .cells #[.int .i64 a5_0, .int .i64 a5_1] 32 (0, 0)) (by (with_reducible repeat (first | refine blk_drewN ?_ _ | refine blk_drew ?_ | refine blk_alloc ?_ _)); exact BK208.out) hb); have n3_ := Aside0.mk (below_step (by repeat (first | (with_reducible first | exact HB.out | apply below_alloc | apply pw_below_drewN | apply below_drew1 | refine below_set ?_ GE207.out | refine below_set ?_ GE208.out) | exact HB.out)) hb); clear BK207; clear BK208; clear HB; have HO211 := n0_; have BK207 := n1_; have BK208 := n2_; have HB := n3_; clear n0_ n1_ n2_ n3_; clear hb ho13))
      go_loopg [14, 23] k (fun kq v14 v23 w' => ∃ (x14_1 : List Int) (x23_1 : Int), v23 = .int .i64 x23_1 ∧ Aside0 (motion_predicted.l0 kq a1 a2 a3 x14_1 a4 x23_1 l0_0 a0_1 a0_2 a5_0 a5_1 = some r) ∧ Aside0 (kq ≤ k) ∧ Aside0 (Kd.R (Kd.int .u8) 5 w' w.heap.size (fun _ => True) v14 x14_1) ∧ Aside0 (w'.heap[gb207]? = some (.cells #[(.slice A0_0 l0_0.length c0_0), .int .i64 a0_1, .int .i64 a0_2] 54 (0, 0))) ∧ Aside0 (w'.heap[gb208]? = some (.cells #[.int .i64 a5_0, .int .i64 a5_1] 32 (0, 0))) ∧ Aside0 (Below w.heap.size w w'))
      case atStart => exact ⟨(y209), (0), (by first | rfl | (simp; done) | (simp [*]; done)), H', ⟨Nat.le_refl _⟩, ⟨by (with_reducible repeat (first | apply Kd.R_alloc | apply Kd.R_drewN | apply Kd.R_drew)); exact HO211.out⟩, ⟨by (with_reducible repeat (first | refine blk_drewN ?_ _ | refine blk_drew ?_ | refine blk_alloc ?_ _)); exact BK207.out⟩, ⟨by (with_reducible repeat (first | refine blk_drewN ?_ _ | refine blk_drew ?_ | refine blk_alloc ?_ _)); exact BK208.out⟩, ⟨by repeat (first | (with_reducible first | exact HB.out | apply below_alloc | apply pw_below_drewN | apply below_drew1 | refine below_set ?_ GE207.out | refine below_set ?_ GE208.out) | exact HB.out)⟩⟩
      case round =>
        clear H'
        try clear p2
        try clear c3
        try clear p6
        try clear c8
        try clear c8b0
        try clear c8b1
        try clear c9
        try clear c9b0
        try clear c9b1
        obtain ⟨x14_1, x23_1, rfl, HA, HK1, HO_14, BK207, BK208, HB⟩ := hrel
        cases gk with
        | zero => exact absurd HA.out (by simp [motion_predicted.l0])
        | succ k1 =>
          have H := HA.out
          clear HA
          simp only [motion_predicted.l0] at H
          by_cases c14 : x23_1 < a4
          · rw [if_pos c14] at H
            have c14b0 : decide (x23_1 < a4) = true := decide_eq_true c14
            clear c14
            have H' := Aside0.mk H
            clear H
            go_wp2
            go_loopg [14, 27] k1 (fun kq v14 v27 w' => ∃ (x14_2 : List Int) (x27_2 : Int), v27 = .int .i64 x27_2 ∧ Aside0 (motion_predicted.l1 kq a1 a2 a3 x14_2 x23_1 a4 x23_1 a3 x27_2 l0_0 a0_1 a0_2 a5_0 a5_1 = some r) ∧ Aside0 (kq ≤ k1) ∧ Aside0 (Kd.R (Kd.int .u8) 5 w' w.heap.size (fun _ => True) v14 x14_2) ∧ Aside0 (w'.heap[gb207]? = some (.cells #[(.slice A0_0 l0_0.length c0_0), .int .i64 a0_1, .int .i64 a0_2] 54 (0, 0))) ∧ Aside0 (w'.heap[gb208]? = some (.cells #[.int .i64 a5_0, .int .i64 a5_1] 32 (0, 0))) ∧ Aside0 (Below w.heap.size w w'))
            case atStart => exact ⟨(x14_1), (0), (by first | rfl | (simp; done) | (simp [*]; done)), H', ⟨Nat.le_refl _⟩, ⟨by (with_reducible repeat (first | apply Kd.R_alloc | apply Kd.R_drewN | apply Kd.R_drew)); exact HO_14.out⟩, ⟨by (with_reducible repeat (first | refine blk_drewN ?_ _ | refine blk_drew ?_ | refine blk_alloc ?_ _)); exact BK207.out⟩, ⟨by (with_reducible repeat (first | refine blk_drewN ?_ _ | refine blk_drew ?_ | refine blk_alloc ?_ _)); exact BK208.out⟩, ⟨by repeat (first | (with_reducible first | exact HB.out | apply below_alloc | apply pw_below_drewN | apply below_drew1 | refine below_set ?_ GE207.out | refine below_set ?_ GE208.out) | exact HB.out)⟩⟩
            case round =>
              clear H'
              try clear c1
              try clear p2
              try clear c3
              try clear p6
              try clear c8
              try clear c8b0
              try clear c8b1
              try clear c9
              try clear c9b0
              try clear c9b1
              try clear c14
              try clear c14b0
              try clear p2
              try clear p6
              obtain ⟨x14_2, x27_2, rfl, HA, HK2, HO_14, BK207, BK208, HB⟩ := hrel
              cases gk with
              | zero => exact absurd HA.out (by simp [motion_predicted.l1])
              | succ k2 =>
                have H := HA.out
                clear HA
                simp only [motion_predicted.l1] at H
                by_cases c15 : x27_2 < a3
                · rw [if_pos c15] at H
                  have c15b0 : decide (x27_2 < a3) = true := decide_eq_true c15
                  clear c15
                  replace H := Option.bind_eq_some_iff.mp H
                  obtain ⟨t212, A160, H⟩ := H
                  replace H : (if x14_2.length < 140737488355328 then (motion_predicted.l1 k2 a1 a2 a3 (x14_2 ++ [t212]) x23_1 a4 x23_1 a3 (wrap64 (x27_2 + 1)) l0_0 a0_1 a0_2 a5_0 a5_1) else (none)) = some r := H
                  have A16 := Aside0.mk A160
                  clear A160
                  by_cases c17 : x14_2.length < 140737488355328
                  · rw [if_pos c17] at H
                    have LMc17 := Aside0.mk c17
                    clear c17
                    obtain ⟨y213, hy213⟩ : ∃ y_ : List Int, y_ = (x14_2 ++ [t212]) := ⟨_, rfl⟩
                    replace H : (motion_predicted.l1 k2 a1 a2 a3 y213 x23_1 a4 x23_1 a3 (wrap64 (x27_2 + 1)) l0_0 a0_1 a0_2 a5_0 a5_1) = some r := by first | (rw [hy213]; with_reducible exact H) | (have H2_ := (Option.bind_some _ _).symm.trans H; rw [hy213]; with_reducible exact H2_) | (have H2_ := (Option.bind_some _ _).symm.trans H; with_reducible exact H2_) | with_reducible exact H | (rw [hy213]; exact H) | exact H
                    have Ny213 := Aside0.mk hy213
                    clear hy213
                    have H' := Aside0.mk H
                    clear H
                    have hnb18 := NB208_207.out
                    have hnc18 := NB207_208.out
                    have hcz19_0 : wr.cell? ⟨gb208, 0, none⟩ = some (.int .i64 a5_0) := (blk_cell BK208.out 0).trans rfl
                    have hcz19_1 : wr.cell? ⟨gb208, 1, none⟩ = some (.int .i64 a5_1) := (blk_cell BK208.out 1).trans rfl
                    have hfz19_0 := blk_frozen BK208.out 0
                    have hfz19_1 := blk_frozen BK208.out 1
                    go_wp2_with (first | ((with_reducible refine gate_clos (t := 31) rfl ?_); refine goesC_ (some 46) rfl rfl Try.func45 (by kernel_rfl) rfl #[.int .i64 (wrap64 ((wrap64 (2 * (wrap64 (a1 + x27_2)))) + a5_0)), .int .i64 (wrap64 ((wrap64 (2 * (wrap64 (a2 + x23_1)))) + a5_1)), .pointer (some ⟨gb207, 0, none⟩)] rfl (by first | rfl | (go_simp; rfl)) (by (try simp only [List.map_toArray, List.map_cons, List.map_nil]); first | done | rfl | (simp only [List.length_drop, List.length_take]; rfl)) ?_; (with_reducible refine (motion_predicted_1.calls (wrap64 ((wrap64 (2 * (wrap64 (a1 + x27_2)))) + a5_0)) (wrap64 ((wrap64 (2 * (wrap64 (a2 + x23_1)))) + a5_1)) _ _ l0_0 a0_1 a0_2 t212 _ ?side1 ?side2 A16.out gb207 (by (with_reducible repeat (first | refine blk_drewN ?_ _ | refine blk_drew ?_ | refine blk_alloc ?_ _)); exact BK207.out)).mono ?_); (case side1 => repeat (first | exact (Kd.C_below HR0_0.out HB.out) | (with_reducible refine Kd.C_alloc ?_ _) | (with_reducible refine Kd.C_drewN ?_ _) | (with_reducible refine Kd.C_drew ?_))); (case side2 => exact HC0_0.out); rintro e w20 ⟨rfl, hb⟩; refine ⟨_, rfl, ?_⟩; have n0_ := Aside0.mk (Kd.R_below (by (with_reducible repeat (first | apply Kd.R_alloc | apply Kd.R_drewN | apply Kd.R_drew)); exact HO_14.out) hb); have n1_ := Aside0.mk (blk_below (g := gb207) (o := .cells #[.slice A0_0 l0_0.length c0_0, .int .i64 a0_1, .int .i64 a0_2] 54 (0, 0)) (by (with_reducible repeat (first | refine blk_drewN ?_ _ | refine blk_drew ?_ | refine blk_alloc ?_ _)); exact BK207.out) hb); have n2_ := Aside0.mk (blk_below (g := gb208) (o := .cells #[.int .i64 a5_0, .int .i64 a5_1] 32 (0, 0)) (by (with_reducible repeat (first | refine blk_drewN ?_ _ | refine blk_drew ?_ | refine blk_alloc ?_ _)); exact BK208.out) hb); have n3_ := Aside0.mk (below_step (by repeat (first | (with_reducible first | exact HB.out | apply below_alloc | apply pw_below_drewN | apply below_drew1 | refine below_set ?_ GE207.out | refine below_set ?_ GE208.out) | exact HB.out)) hb); clear HO_14; clear BK207; clear BK208; clear HB; have HO_14 := n0_; have BK207 := n1_; have BK208 := n2_; have HB := n3_; clear n0_ n1_ n2_ n3_; (try clear hb); (try clear hb2); (try clear hk); (try clear hi)) | ((with_reducible refine gate_builtin (b := .append) (xs := #[.tmp 30, .tmp 47]) rfl ?_); at_builtin; refine Kd.R_append (Kd.int .u8) (w0 := w) w.heap.size rfl (.tmp 30) (.tmp 47) 22 5 (.int .u8 0) 1 rfl Try.underlying22 info5 rfl (by decide) (by omega) u14 x14_2 t212 [.int .u8 t212] (fun _ => True) (fun _ => False) rfl rfl ?aP (fun _ hk => hk.elim) ?aF ?aO ?aB ?aS ?aL ?_; (case aP => exact rfl); (case aB => exact (by repeat (first | (with_reducible first | exact HB.out | apply below_alloc | apply pw_below_drewN | apply below_drew1 | refine below_set ?_ GE207.out | refine below_set ?_ GE208.out) | exact HB.out))); (case aF => exact (fun _ _ => trivial)); (case aO => exact (by (with_reducible repeat (first | apply Kd.R_alloc | apply Kd.R_drewN | apply Kd.R_drew)); exact HO_14.out)); (case aS => exact (below_size (by repeat (first | (with_reducible first | exact HB.out | apply below_alloc | apply pw_below_drewN | apply below_drew1 | refine below_set ?_ GE207.out | refine below_set ?_ GE208.out) | exact HB.out)))); (case aL => have := LMc17.out; omega); intro v214 w21 ho hb hg hat; rw [← Ny213.out] at ho; have n0_ := Aside0.mk (blk_grown (g := gb207) (o := .cells #[.slice A0_0 l0_0.length c0_0, .int .i64 a0_1, .int .i64 a0_2] 54 (0, 0)) (by (with_reducible repeat (first | refine blk_drewN ?_ _ | refine blk_drew ?_ | refine blk_alloc ?_ _)); exact BK207.out) hg (Kd.R_ne HO_14.out BK207.out (by decide))); have n1_ := Aside0.mk (blk_grown (g := gb208) (o := .cells #[.int .i64 a5_0, .int .i64 a5_1] 32 (0, 0)) (by (with_reducible repeat (first | refine blk_drewN ?_ _ | refine blk_drew ?_ | refine blk_alloc ?_ _)); exact BK208.out) hg (Kd.R_ne HO_14.out BK208.out (by decide))); have n2_ := Aside0.mk (hb); have n3_ := Aside0.mk (ho); clear BK207; clear BK208; clear HB; clear HO_14; have BK207 := n0_; have BK208 := n1_; have HB := n2_; have HO215 := n3_; clear n0_ n1_ n2_ n3_; clear ho hb hg hat))
                    go_roundg k2
                    case measure => have := HK1.out; have := HK2.out; omega
                    case rel => exact ⟨(y213), (wrap64 (x27_2 + 1)), (by first | rfl | (simp; done) | (simp [*]; done)), H', ⟨by have := HK1.out; have := HK2.out; omega⟩, ⟨by (with_reducible repeat (first | apply Kd.R_alloc | apply Kd.R_drewN | apply Kd.R_drew)); exact HO215.out⟩, ⟨by (with_reducible repeat (first | refine blk_drewN ?_ _ | refine blk_drew ?_ | refine blk_alloc ?_ _)); exact BK207.out⟩, ⟨by (with_reducible repeat (first | refine blk_drewN ?_ _ | refine blk_drew ?_ | refine blk_alloc ?_ _)); exact BK208.out⟩, ⟨by repeat (first | (with_reducible first | exact HB.out | apply below_alloc | apply pw_below_drewN | apply below_drew1 | refine below_set ?_ GE207.out | refine below_set ?_ GE208.out) | exact HB.out)⟩⟩
                  · rw [if_neg c17] at H
                    exact absurd H (by simp)
                · rw [if_neg c15] at H
                  have c15b0 : decide (x27_2 < a3) = false := decide_eq_false c15
                  clear c15
                  have H' := Aside0.mk H
                  clear H
                  go_wp2
                  go_roundg k2
                  case measure => have := HK1.out; have := HK2.out; omega
                  case rel => exact ⟨(x14_2), (wrap64 (x23_1 + 1)), (by first | rfl | (simp; done) | (simp [*]; done)), H', ⟨by have := HK1.out; have := HK2.out; omega⟩, ⟨by (with_reducible repeat (first | apply Kd.R_alloc | apply Kd.R_drewN | apply Kd.R_drew)); exact HO_14.out⟩, ⟨by (with_reducible repeat (first | refine blk_drewN ?_ _ | refine blk_drew ?_ | refine blk_alloc ?_ _)); exact BK207.out⟩, ⟨by (with_reducible repeat (first | refine blk_drewN ?_ _ | refine blk_drew ?_ | refine blk_alloc ?_ _)); exact BK208.out⟩, ⟨by repeat (first | (with_reducible first | exact HB.out | apply below_alloc | apply pw_below_drewN | apply below_drew1 | refine below_set ?_ GE207.out | refine below_set ?_ GE208.out) | exact HB.out)⟩⟩
          · rw [if_neg c14] at H
            have c14b0 : decide (x23_1 < a4) = false := decide_eq_false c14
            clear c14
            obtain rfl := Option.some.inj H
            go_wp2
            go_ret
            exact ⟨_, by first | rfl | (simp [errW_none, errW_some] <;> rfl) | (simp only [← hji7]; first | rfl | (simp [errW_none, errW_some] <;> rfl)) | (simp [*, errW_none, errW_some] <;> rfl), by (with_reducible repeat (first | apply Kd.R_alloc | apply Kd.R_drewN | apply Kd.R_drew)); exact HO_14.out, by repeat (first | (with_reducible first | exact HB.out | apply below_alloc | apply pw_below_drewN | apply below_drew1 | refine below_set ?_ GE207.out | refine below_set ?_ GE208.out) | exact HB.out)⟩
    · rw [if_neg c9] at H
      exact absurd H (by simp)
  · rw [if_neg c8] at H
    exact absurd H (by simp)

end Go.Proofs.Ytnihjbcdlgfklaa.PMotionMirror
