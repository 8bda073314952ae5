-- Written by a program of this session, after the form of the kit's print; each text is checked by Lean alone.
import Derived.Test.YtnihjbcdlgfklaaPMotionMirrorx0
import Derived.Test.YtnihjbcdlgfklaaPMotionMirrorx3
namespace Go.Proofs.Ytnihjbcdlgfklaa.PMotionMirror
open Go.RowKit Go.Proofs.YtnihjbcdlgfklaaW.PrintWords Go.Proofs.YtnihjbcdlgfklaaW.PrintLast Go.Proofs.YtnihjbcdlgfklaaW.PrintMore
attribute [local go_sem] max2_int min2_int max_two min_two max_three min_three max_four min_four   -- for this text's walks alone
set_option linter.unusedVariables false
set_option linter.unusedSimpArgs false

/-! ### cutroomref07_Flat: function 29 -/
mutual
def cutroomref07_Flat.l0 : Nat → Int → Int → Int → Int → Int → Int → List Int → List Int → List Int → Option (Int × Int × List Int × List Int × List Int)
  | 0, _, _, _, _, _, _, _, _, _ => none
  | k + 1, x2, x3, x4, x12, x151000, x151001, x151002, x151003, x151004 => if x12 < (x151002.length : Int) then (if 0 ≤ x12 then (cutroomref07_Flat.l0 k x2 x3 x4 (wrap64 (x12 + 1)) x151000 x151001 (x151002.set (x12 : Int).toNat x2) x151003 x151004) else (none)) else (cutroomref07_Flat.l1 k x3 x4 0 x151000 x151001 x151002 x151003 x151004)
def cutroomref07_Flat.l1 : Nat → Int → Int → Int → Int → Int → List Int → List Int → List Int → Option (Int × Int × List Int × List Int × List Int)
  | 0, _, _, _, _, _, _, _, _ => none
  | k + 1, x3, x4, x13, x151000, x151001, x151002, x151003, x151004 => if x13 < (x151003.length : Int) then (if 0 ≤ x13 then (if x13 < (x151004.length : Int) then (cutroomref07_Flat.l1 k x3 x4 (wrap64 (x13 + 1)) x151000 x151001 x151002 (x151003.set (x13 : Int).toNat x3) (x151004.set (x13 : Int).toNat x4)) else (none)) else (none)) else (some (x151000, x151001, x151002, x151003, x151004))
end
def cutroomref07_Flat.f (k : Nat) (a0 : Int) (a1 : Int) (a2 : Int) (a3 : Int) (a4 : Int) : Option (Int × Int × List Int × List Int × List Int) := (cutroomref07_Blank.f a0 a1).bind fun bt139 => (cutroomref07_Flat.l0 k a2 a3 a4 0 bt139.1 bt139.2.1 bt139.2.2.1 bt139.2.2.2.1 bt139.2.2.2.2)
theorem cutroomref07_Flat.mono_l : ∀ k, (∀ y0 y1 y2 y3 y4 y5 y6 y7 y8, LeO (cutroomref07_Flat.l0 k y0 y1 y2 y3 y4 y5 y6 y7 y8) (cutroomref07_Flat.l0 (k + 1) y0 y1 y2 y3 y4 y5 y6 y7 y8)) ∧ (∀ y0 y1 y2 y3 y4 y5 y6 y7, LeO (cutroomref07_Flat.l1 k y0 y1 y2 y3 y4 y5 y6 y7) (cutroomref07_Flat.l1 (k + 1) y0 y1 y2 y3 y4 y5 y6 y7))
  | 0 => ⟨fun _ _ _ _ _ _ _ _ _ r h => by simp [cutroomref07_Flat.l0] at h, fun _ _ _ _ _ _ _ _ r h => by simp [cutroomref07_Flat.l1] at h⟩
  | k + 1 => by
    obtain ⟨ih0, ih1⟩ := cutroomref07_Flat.mono_l k
    refine ⟨?_, ?_⟩
    · intro y0 y1 y2 y3 y4 y5 y6 y7 y8
      unfold cutroomref07_Flat.l0
      repeat' first
      | (with_reducible exact ih0 _ _ _ _ _ _ _ _ _)
      | (with_reducible exact ih1 _ _ _ _ _ _ _ _)
      | (with_reducible exact LeO.refl _)
      | (with_reducible exact LeO.none _)
      | (with_reducible refine LeO.ite ?_ ?_)
      | (with_reducible refine LeO.bind ?_ (fun _ => ?_))
      | exact ih0 _ _ _ _ _ _ _ _ _
      | exact ih1 _ _ _ _ _ _ _ _
      | exact LeO.none _
      | refine LeO.ite ?_ ?_
      | refine LeO.bind ?_ (fun _ => ?_)
    · intro y0 y1 y2 y3 y4 y5 y6 y7
      unfold cutroomref07_Flat.l1
      repeat' first
      | (with_reducible exact ih0 _ _ _ _ _ _ _ _ _)
      | (with_reducible exact ih1 _ _ _ _ _ _ _ _)
      | (with_reducible exact LeO.refl _)
      | (with_reducible exact LeO.none _)
      | (with_reducible refine LeO.ite ?_ ?_)
      | (with_reducible refine LeO.bind ?_ (fun _ => ?_))
      | exact ih0 _ _ _ _ _ _ _ _ _
      | exact ih1 _ _ _ _ _ _ _ _
      | exact LeO.none _
      | refine LeO.ite ?_ ?_
      | refine LeO.bind ?_ (fun _ => ?_)
theorem cutroomref07_Flat.mono : ∀ a0 a1 a2 a3 a4 k, LeO (cutroomref07_Flat.f k a0 a1 a2 a3 a4) (cutroomref07_Flat.f (k + 1) a0 a1 a2 a3 a4) := by
  intro a0 a1 a2 a3 a4 k
  obtain ⟨ih0, ih1⟩ := cutroomref07_Flat.mono_l k
  unfold cutroomref07_Flat.f
  repeat' first
      | (with_reducible exact ih0 _ _ _ _ _ _ _ _ _)
      | (with_reducible exact ih1 _ _ _ _ _ _ _ _)
      | (with_reducible exact LeO.refl _)
      | (with_reducible exact LeO.none _)
      | (with_reducible refine LeO.ite ?_ ?_)
      | (with_reducible refine LeO.bind ?_ (fun _ => ?_))
      | exact ih0 _ _ _ _ _ _ _ _ _
      | exact ih1 _ _ _ _ _ _ _ _
      | exact LeO.none _
      | refine LeO.ite ?_ ?_
      | refine LeO.bind ?_ (fun _ => ?_)
def cutroomref07_Flat.T9 : Bool × List (List Nat × List Nat) := (true, [([], []), ([0], [0]), ([], []), ([], []), ([3], [3]), ([], []), ([], []), ([], []), ([1, 2, 0, 1, 2, 6], [1, 2]), ([8, 6, 0, 1, 2, 6], [6, 8]), ([4, 5, 0, 1, 2, 3, 4, 5, 6, 7, 8, 9], [4, 5]), ([10, 7, 9, 0, 1, 2, 3, 4, 5, 6, 7, 8, 9], [7, 10])])
def cutroomref07_Flat.B9 : List Nat := [0, 1, 0, 0, 8, 0, 0, 0, 71, 327, 1023, 2047]
theorem cutroomref07_Flat.tab9 : rtab .any (opsOf Try.f29 9) = cutroomref07_Flat.T9 := by kernel_rfl
theorem cutroomref07_Flat.bits9 : waitsOk cutroomref07_Flat.T9.2 cutroomref07_Flat.B9 = true := by kernel_rfl
set_option maxHeartbeats 8000000 in
set_option maxRecDepth 100000 in
theorem cutroomref07_Flat.calls (k : Nat) (a0 : Int) (a1 : Int) (a2 : Int) (a3 : Int) (a4 : Int) (r1 : Int) (r2 : Int) (r3 : List Int) (r4 : List Int) (r5 : List Int) (w : World) (h : cutroomref07_Flat.f k a0 a1 a2 a3 a4 = some (r1, r2, r3, r4, r5)) :
    Calls Try.prog 29 #[.int .i64 a0, .int .i64 a1, .int .u8 a2, .int .u8 a3, .int .u8 a4] w fun e w' => ∃ v2_ v3_ v4_ : Value, e = .returned (.agg #[.int .i64 r1, .int .i64 r2, v2_, v3_, v4_]) ∧ Kd.R (Kd.int .u8) 5 w' w.heap.size (fun k_ => some k_ ≠ (v3_ : Value).ownBlock ∧ some k_ ≠ (v4_ : Value).ownBlock) v2_ r3 ∧ Kd.R (Kd.int .u8) 5 w' w.heap.size (fun k_ => some k_ ≠ (v2_ : Value).ownBlock ∧ some k_ ≠ (v4_ : Value).ownBlock) v3_ r4 ∧ Kd.R (Kd.int .u8) 5 w' w.heap.size (fun k_ => some k_ ≠ (v2_ : Value).ownBlock ∧ some k_ ≠ (v3_ : Value).ownBlock) v4_ r5 ∧ Below w.heap.size w w' := by
  have hu24 := Try.underlying24
  have HB := Aside0.mk (Below.refl w.heap.size w)
  have H : ((cutroomref07_Blank.f a0 a1).bind fun bt139 => (cutroomref07_Flat.l0 k a2 a3 a4 0 bt139.1 bt139.2.1 bt139.2.2.1 bt139.2.2.2.1 bt139.2.2.2.2)) = some (r1, r2, r3, r4, r5) := h
  clear h
  replace H := Option.bind_eq_some_iff.mp H
  obtain ⟨⟨t139, t140, t141, t144, t147⟩, A60, H⟩ := H
  replace H : (cutroomref07_Flat.l0 k a2 a3 a4 0 t139 t140 t141 t144 t147) = some (r1, r2, r3, r4, r5) := H
  have A6 := Aside0.mk A60
  clear A60
  have H' := Aside0.mk H
  clear H
  go_enter Try.func29, Try.ntmps29
  go_wp2_with (first | ((with_reducible refine gate_dst (N := 10) rfl ?_); refine box_event ?hg (N := 10) ?hd (cs := #[.int .i64 0, .int .i64 0, .slice none 0 0, .slice none 0 0, .slice none 0 0]) (t := 24) ?hr ?_; (case hd => rfl); (case hg => rfl); (case hr => first | (go_simp; done) | (go_simp; rfl)); intro gb138 hg w7 hbox hb; have n0_ := Aside0.mk (below_step (by repeat (first | (with_reducible first | exact HB.out | apply below_alloc | apply pw_below_drewN | apply below_drew1) | exact HB.out)) hb); have n1_ := Aside0.mk (hbox); have n2_ := Aside0.mk ((by rw [hg]; exact (below_size (by repeat (first | (with_reducible first | exact HB.out | apply below_alloc | apply pw_below_drewN | apply below_drew1) | exact HB.out))) : w.heap.size ≤ gb138)); have n3_ := Aside0.mk ((by rw [hg]; exact (below_size (by repeat (first | (with_reducible first | exact HB.out | apply below_alloc | apply pw_below_drewN | apply below_drew1) | exact HB.out))) : w.heap.size ≤ gb138)); clear HB; have HB := n0_; have BK138 := n1_; have GW138 := n2_; have GE138 := n3_; clear n0_ n1_ n2_ n3_; clear hb hbox hg) | ((with_reducible refine gate_callee (f := 19) rfl ?_); refine goesL_ (some 16) rfl rfl Try.func19 (by kernel_rfl) rfl #[.int .i64 a0, .int .i64 a1] rfl (by (try simp only [List.map_toArray, List.map_cons, List.map_nil]); first | done | rfl | (simp only [List.length_drop, List.length_take]; rfl)) ?_; (with_reducible refine (cutroomref07_Blank.calls a0 a1 t139 t140 t141 t144 t147 _ A6.out).mono ?_); rintro e w8 ⟨v142, v145, v148, rfl, ho0, ho1, ho2, hb⟩; refine ⟨_, rfl, ?_⟩; have n0_ := Aside0.mk (Kd.R_lower ho0 (below_size (by repeat (first | (with_reducible first | exact HB.out | apply below_alloc | apply pw_below_drewN | apply below_drew1 | refine below_set ?_ GE138.out) | exact HB.out)))); have n1_ := Aside0.mk (Kd.R_lower ho1 (below_size (by repeat (first | (with_reducible first | exact HB.out | apply below_alloc | apply pw_below_drewN | apply below_drew1 | refine below_set ?_ GE138.out) | exact HB.out)))); have n2_ := Aside0.mk (Kd.R_lower ho2 (below_size (by repeat (first | (with_reducible first | exact HB.out | apply below_alloc | apply pw_below_drewN | apply below_drew1 | refine below_set ?_ GE138.out) | exact HB.out)))); have n3_ := Aside0.mk (blk_below (g := gb138) (o := .cells #[.int .i64 0, .int .i64 0, .slice none 0 0, .slice none 0 0, .slice none 0 0] 24 (0, 0)) (by (with_reducible repeat (first | refine blk_drewN ?_ _ | refine blk_drew ?_ | refine blk_alloc ?_ _)); exact BK138.out) hb); have n4_ := Aside0.mk (below_step (by repeat (first | (with_reducible first | exact HB.out | apply below_alloc | apply pw_below_drewN | apply below_drew1 | refine below_set ?_ GE138.out) | exact HB.out)) hb); clear BK138; clear HB; have HO143 := n0_; have HO146 := n1_; have HO149 := n2_; have BK138 := n3_; have HB := n4_; clear n0_ n1_ n2_ n3_ n4_; (try clear hb); (try clear hb2); (try clear hk); (try clear hi); (try clear ho0); (try clear ho1); (try clear ho2)) | ((with_reducible refine gate_dst (N := 11) rfl ?_); refine box_event ?hg (N := 11) ?hd (cs := #[.int .i64 0, .int .i64 0, .slice none 0 0, .slice none 0 0, .slice none 0 0]) (t := 24) ?hr ?_; (case hd => rfl); (case hg => rfl); (case hr => first | (go_simp; done) | (go_simp; rfl)); intro gb150 hg w9 hbox hb; have n0_ := Aside0.mk (Kd.R_below (by (with_reducible repeat (first | apply Kd.R_alloc | apply Kd.R_drewN | apply Kd.R_drew)); exact HO143.out) hb); have n1_ := Aside0.mk (Kd.R_below (by (with_reducible repeat (first | apply Kd.R_alloc | apply Kd.R_drewN | apply Kd.R_drew)); exact HO146.out) hb); have n2_ := Aside0.mk (Kd.R_below (by (with_reducible repeat (first | apply Kd.R_alloc | apply Kd.R_drewN | apply Kd.R_drew)); exact HO149.out) hb); have n3_ := Aside0.mk (blk_below (g := gb138) (o := .cells #[.int .i64 0, .int .i64 0, .slice none 0 0, .slice none 0 0, .slice none 0 0] 24 (0, 0)) (by (with_reducible repeat (first | refine blk_drewN ?_ _ | refine blk_drew ?_ | refine blk_alloc ?_ _)); exact BK138.out) hb); have n4_ := Aside0.mk (below_step (by repeat (first | (with_reducible first | exact HB.out | apply below_alloc | apply pw_below_drewN | apply below_drew1 | refine below_set ?_ GE138.out) | exact HB.out)) hb); have n5_ := Aside0.mk (hbox); have n6_ := Aside0.mk ((by rw [hg]; exact (below_size (by repeat (first | (with_reducible first | exact HB.out | apply below_alloc | apply pw_below_drewN | apply below_drew1 | refine below_set ?_ GE138.out) | exact HB.out))) : w.heap.size ≤ gb150)); have n7_ := Aside0.mk ((by rw [hg]; exact (below_size (by repeat (first | (with_reducible first | exact HB.out | apply below_alloc | apply pw_below_drewN | apply below_drew1 | refine below_set ?_ GE138.out) | exact HB.out))) : w.heap.size ≤ gb150)); have n8_ := Aside0.mk ((by rw [hg]; exact Nat.ne_of_lt (blk_lt (g := gb138) (o := .cells #[.int .i64 0, .int .i64 0, .slice none 0 0, .slice none 0 0, .slice none 0 0] 24 (0, 0)) (by (with_reducible repeat (first | refine blk_drewN ?_ _ | refine blk_drew ?_ | refine blk_alloc ?_ _)); exact BK138.out)) : gb138 ≠ gb150)); have n9_ := Aside0.mk ((by rw [hg]; exact Nat.ne_of_gt (blk_lt (g := gb138) (o := .cells #[.int .i64 0, .int .i64 0, .slice none 0 0, .slice none 0 0, .slice none 0 0] 24 (0, 0)) (by (with_reducible repeat (first | refine blk_drewN ?_ _ | refine blk_drew ?_ | refine blk_alloc ?_ _)); exact BK138.out)) : gb150 ≠ gb138)); clear HO143; clear HO146; clear HO149; clear BK138; clear HB; have HO143 := n0_; have HO146 := n1_; have HO149 := n2_; have BK138 := n3_; have HB := n4_; have BK150 := n5_; have GW150 := n6_; have GE150 := n7_; have NB138_150 := n8_; have NB150_138 := n9_; clear n0_ n1_ n2_ n3_ n4_ n5_ n6_ n7_ n8_ n9_; clear hb hbox hg; have hnb10 := NB150_138.out; have hnc10 := NB138_150.out; have hcz11_0 : w9.cell? ⟨gb150, 0, none⟩ = some (.int .i64 0) := (blk_cell BK150.out 0).trans rfl; have hcz11_1 : w9.cell? ⟨gb150, 1, none⟩ = some (.int .i64 0) := (blk_cell BK150.out 1).trans rfl; have hcz11_2 : w9.cell? ⟨gb150, 2, none⟩ = some (.slice none 0 0) := (blk_cell BK150.out 2).trans rfl; have hcz11_3 : w9.cell? ⟨gb150, 3, none⟩ = some (.slice none 0 0) := (blk_cell BK150.out 3).trans rfl; have hcz11_4 : w9.cell? ⟨gb150, 4, none⟩ = some (.slice none 0 0) := (blk_cell BK150.out 4).trans rfl; have hfz11_0 := blk_frozen BK150.out 0; have hfz11_1 := blk_frozen BK150.out 1; have hfz11_2 := blk_frozen BK150.out 2; have hfz11_3 := blk_frozen BK150.out 3; have hfz11_4 := blk_frozen BK150.out 4; obtain ⟨Ao12, co12, eo12⟩ := Kd.R_slice HO143.out; subst eo12; obtain ⟨Ao13, co13, eo13⟩ := Kd.R_slice HO146.out; subst eo13; obtain ⟨Ao14, co14, eo14⟩ := Kd.R_slice HO149.out; subst eo14))
  go_loopg [12] k (fun kq v12 w' => ∃ (x12_1 : Int) (x151002_1 : List Int) (x151003_1 : List Int) (x151004_1 : List Int) (u151002 : Value) (u151003 : Value) (u151004 : Value), v12 = .int .i64 x12_1 ∧ Aside0 (cutroomref07_Flat.l0 kq a2 a3 a4 x12_1 t139 t140 x151002_1 x151003_1 x151004_1 = some (r1, r2, r3, r4, r5)) ∧ Aside0 (kq ≤ k) ∧ Aside0 (Kd.R (Kd.int .u8) 5 w' w.heap.size (fun k_ => some k_ ≠ (u151003 : Value).ownBlock ∧ some k_ ≠ (u151004 : Value).ownBlock) u151002 x151002_1) ∧ Aside0 (Kd.R (Kd.int .u8) 5 w' w.heap.size (fun k_ => some k_ ≠ (u151002 : Value).ownBlock ∧ some k_ ≠ (u151004 : Value).ownBlock) u151003 x151003_1) ∧ Aside0 (Kd.R (Kd.int .u8) 5 w' w.heap.size (fun k_ => some k_ ≠ (u151002 : Value).ownBlock ∧ some k_ ≠ (u151003 : Value).ownBlock) u151004 x151004_1) ∧ Aside0 (w'.heap[gb138]? = some (.cells #[.int .i64 0, .int .i64 0, (.slice none 0 0), (.slice none 0 0), (.slice none 0 0)] 24 (0, 0))) ∧ Aside0 (w'.heap[gb150]? = some (.cells #[.int .i64 t139, .int .i64 t140, u151002, u151003, u151004] 24 (0, 0))) ∧ Aside0 (Below w.heap.size w w'))
  case atStart => exact ⟨(0), (t141), (t144), (t147), (.slice Ao12 t141.length co12), (.slice Ao13 t144.length co13), (.slice Ao14 t147.length co14), (by first | rfl | (simp; done) | (simp [*]; done)), H', ⟨Nat.le_refl _⟩, ⟨by (with_reducible repeat (first | apply Kd.R_alloc | apply Kd.R_drewN | apply Kd.R_drew)); exact Kd.R_mono (Kd.R_far (p := ⟨gb150, 4, none⟩) (Kd.R_far (p := ⟨gb150, 3, none⟩) (Kd.R_far (p := ⟨gb150, 2, none⟩) (Kd.R_far (p := ⟨gb150, 1, none⟩) (Kd.R_far (p := ⟨gb150, 0, none⟩) (Kd.R_types HO143.out BK150.out (by decide)) (fun _ hk => hk.2) (.int .i64 t139)) (fun _ hk => hk.2) (.int .i64 t140)) (fun _ hk => hk.2) (.slice Ao12 t141.length co12)) (fun _ hk => hk.2) (.slice Ao13 t144.length co13)) (fun _ hk => hk.2) (.slice Ao14 t147.length co14)) (fun _ hk => ⟨hk.1.1, hk.1.2⟩)⟩, ⟨by (with_reducible repeat (first | apply Kd.R_alloc | apply Kd.R_drewN | apply Kd.R_drew)); exact Kd.R_mono (Kd.R_far (p := ⟨gb150, 4, none⟩) (Kd.R_far (p := ⟨gb150, 3, none⟩) (Kd.R_far (p := ⟨gb150, 2, none⟩) (Kd.R_far (p := ⟨gb150, 1, none⟩) (Kd.R_far (p := ⟨gb150, 0, none⟩) (Kd.R_types HO146.out BK150.out (by decide)) (fun _ hk => hk.2) (.int .i64 t139)) (fun _ hk => hk.2) (.int .i64 t140)) (fun _ hk => hk.2) (.slice Ao12 t141.length co12)) (fun _ hk => hk.2) (.slice Ao13 t144.length co13)) (fun _ hk => hk.2) (.slice Ao14 t147.length co14)) (fun _ hk => ⟨hk.1.1, hk.1.2⟩)⟩, ⟨by (with_reducible repeat (first | apply Kd.R_alloc | apply Kd.R_drewN | apply Kd.R_drew)); exact Kd.R_mono (Kd.R_far (p := ⟨gb150, 4, none⟩) (Kd.R_far (p := ⟨gb150, 3, none⟩) (Kd.R_far (p := ⟨gb150, 2, none⟩) (Kd.R_far (p := ⟨gb150, 1, none⟩) (Kd.R_far (p := ⟨gb150, 0, none⟩) (Kd.R_types HO149.out BK150.out (by decide)) (fun _ hk => hk.2) (.int .i64 t139)) (fun _ hk => hk.2) (.int .i64 t140)) (fun _ hk => hk.2) (.slice Ao12 t141.length co12)) (fun _ hk => hk.2) (.slice Ao13 t144.length co13)) (fun _ hk => hk.2) (.slice Ao14 t147.length co14)) (fun _ hk => ⟨hk.1.1, hk.1.2⟩)⟩, ⟨by (with_reducible repeat (first | refine blk_drewN ?_ _ | refine blk_drew ?_ | refine blk_alloc ?_ _)); refine blk_far ?_ NB138_150.out _; (with_reducible repeat (first | refine blk_drewN ?_ _ | refine blk_drew ?_ | refine blk_alloc ?_ _)); refine blk_far ?_ NB138_150.out _; (with_reducible repeat (first | refine blk_drewN ?_ _ | refine blk_drew ?_ | refine blk_alloc ?_ _)); refine blk_far ?_ NB138_150.out _; (with_reducible repeat (first | refine blk_drewN ?_ _ | refine blk_drew ?_ | refine blk_alloc ?_ _)); refine blk_far ?_ NB138_150.out _; (with_reducible repeat (first | refine blk_drewN ?_ _ | refine blk_drew ?_ | refine blk_alloc ?_ _)); refine blk_far ?_ NB138_150.out _; (with_reducible repeat (first | refine blk_drewN ?_ _ | refine blk_drew ?_ | refine blk_alloc ?_ _)); exact BK138.out⟩, ⟨by (with_reducible repeat (first | refine blk_drewN ?_ _ | refine blk_drew ?_ | refine blk_alloc ?_ _)); refine blk_put (cs := #[.int .i64 t139, .int .i64 t140, .slice Ao12 t141.length co12, .slice Ao13 t144.length co13, .slice none 0 0]) ?_ 4 _ rfl; (with_reducible repeat (first | refine blk_drewN ?_ _ | refine blk_drew ?_ | refine blk_alloc ?_ _)); refine blk_put (cs := #[.int .i64 t139, .int .i64 t140, .slice Ao12 t141.length co12, .slice none 0 0, .slice none 0 0]) ?_ 3 _ rfl; (with_reducible repeat (first | refine blk_drewN ?_ _ | refine blk_drew ?_ | refine blk_alloc ?_ _)); refine blk_put (cs := #[.int .i64 t139, .int .i64 t140, .slice none 0 0, .slice none 0 0, .slice none 0 0]) ?_ 2 _ rfl; (with_reducible repeat (first | refine blk_drewN ?_ _ | refine blk_drew ?_ | refine blk_alloc ?_ _)); refine blk_put (cs := #[.int .i64 t139, .int .i64 0, .slice none 0 0, .slice none 0 0, .slice none 0 0]) ?_ 1 _ rfl; (with_reducible repeat (first | refine blk_drewN ?_ _ | refine blk_drew ?_ | refine blk_alloc ?_ _)); refine blk_put (cs := #[.int .i64 0, .int .i64 0, .slice none 0 0, .slice none 0 0, .slice none 0 0]) ?_ 0 _ rfl; (with_reducible repeat (first | refine blk_drewN ?_ _ | refine blk_drew ?_ | refine blk_alloc ?_ _)); exact BK150.out⟩, ⟨by repeat (first | (with_reducible first | exact HB.out | apply below_alloc | apply pw_below_drewN | apply below_drew1 | refine below_set ?_ GE138.out | refine below_set ?_ GE150.out) | exact HB.out)⟩⟩
  case round =>
    clear H'
    try clear c1
    try clear c2
    try clear p2
    try clear c10
    try clear hcz11_0
    try clear hcz11_1
    try clear hcz11_2
    try clear hcz11_3
    try clear hcz11_4
    try clear hfz11_0
    try clear hfz11_1
    try clear hfz11_2
    try clear hfz11_3
    try clear hfz11_4
    obtain ⟨x12_1, x151002_1, x151003_1, x151004_1, u151002, u151003, u151004, rfl, HA, HK1, HO_151002, HO_151003, HO_151004, BK138, BK150, HB⟩ := hrel
    cases gk with
    | zero => exact absurd HA.out (by simp [cutroomref07_Flat.l0])
    | succ k1 =>
      have H := HA.out
      clear HA
      simp only [cutroomref07_Flat.l0] at H
      by_cases c15 : x12_1 < (x151002_1.length : Int)
      · rw [if_pos c15] at H
        have c15b0 : decide (x12_1 < (x151002_1.length : Int)) = true := decide_eq_true c15
        clear c15
        by_cases c16 : 0 ≤ x12_1
        · rw [if_pos c16] at H
          have c16b0 : decide (0 ≤ x12_1) = true := decide_eq_true c16
          clear c16
          obtain ⟨y151, hy151⟩ : ∃ y_ : List Int, y_ = (x151002_1.set (x12_1 : Int).toNat a2) := ⟨_, rfl⟩
          replace H : (cutroomref07_Flat.l0 k1 a2 a3 a4 (wrap64 (x12_1 + 1)) t139 t140 y151 x151003_1 x151004_1) = some (r1, r2, r3, r4, r5) := by first | (rw [hy151]; with_reducible exact H) | (have H2_ := (Option.bind_some _ _).symm.trans H; rw [hy151]; with_reducible exact H2_) | (have H2_ := (Option.bind_some _ _).symm.trans H; with_reducible exact H2_) | with_reducible exact H | (rw [hy151]; exact H) | exact H
          have Ny151 := Aside0.mk hy151
          clear hy151
          have H' := Aside0.mk H
          clear H
          have hnb18 := NB150_138.out
          have hnc18 := NB138_150.out
          have hcz19_0 : wr.cell? ⟨gb150, 0, none⟩ = some (.int .i64 t139) := (blk_cell BK150.out 0).trans rfl
          have hcz19_1 : wr.cell? ⟨gb150, 1, none⟩ = some (.int .i64 t140) := (blk_cell BK150.out 1).trans rfl
          have hcz19_2 : wr.cell? ⟨gb150, 2, none⟩ = some (u151002) := (blk_cell BK150.out 2).trans rfl
          have hcz19_3 : wr.cell? ⟨gb150, 3, none⟩ = some (u151003) := (blk_cell BK150.out 3).trans rfl
          have hcz19_4 : wr.cell? ⟨gb150, 4, none⟩ = some (u151004) := (blk_cell BK150.out 4).trans rfl
          have hfz19_0 := blk_frozen BK150.out 0
          have hfz19_1 := blk_frozen BK150.out 1
          have hfz19_2 := blk_frozen BK150.out 2
          have hfz19_3 := blk_frozen BK150.out 3
          have hfz19_4 := blk_frozen BK150.out 4
          obtain ⟨Ao20, co20, eo20⟩ := Kd.R_slice HO_151002.out
          subst eo20
          have p17 : 0 ≤ (x12_1 : Int) := of_decide_eq_true (by first | (with_reducible assumption) | assumption)
          have q17 : (x12_1 : Int) < ((x151002_1.length : Int) : Int) := of_decide_eq_true (by first | (with_reducible assumption) | assumption)
          obtain ⟨go17, co17, eo17, gb17, gl17, cl17, HG17⟩ := Kd.R_form HO_151002.out (by omega)
          (first | cases eo17 | (injection eo17 with ea_ en_ ec_; (first | subst ea_ | (injection ea_ with ea_; subst ea_)); subst ec_; clear en_))
          have GB17 := Aside0.mk gb17
          have GG17 := Aside0.mk HG17
          clear gb17 gl17 HG17
          obtain ⟨hx17_0, hf17_0⟩ := Kd.R_celln 0 HO_151002.out (x12_1 : Int) p17 q17
          replace p17 := eq_true p17
          replace q17 := eq_true q17
          have HP21 := Kd.R_putg HO_151002.out (x12_1 : Int) a2
          go_wp2_with (first | ((with_reducible refine gate_store (t := 5) (p := 28) rfl ?_); refine store_event (t := 5) (p := 28) (v := ?vo_w22) (w1 := (wr.setCell ⟨go17, (x12_1 : Int).toNat, none⟩ (.int .u8 a2))) ?hg ?ho ?hn ?hr ?_; (case ho => rfl); (case hg => rfl); (case hn => rfl); (case hr => first | (go_simp; done) | (go_simp; rfl)); intro w22 hw; have hg : wr.grownBy w22 (some go17) := (by rw [hw]; exact HP21.2); have hp_ : Kd.R (Kd.int .u8) 5 w22 w.heap.size (fun k_ => some k_ ≠ (u151003 : Value).ownBlock ∧ some k_ ≠ (u151004 : Value).ownBlock) (.slice (some ⟨go17, 0, none⟩) x151002_1.length co20) y151 := (by rw [hw, Ny151.out]; exact HP21.1); clear HP21; have n0_ := Aside0.mk (hp_); have n1_ := Aside0.mk (Kd.R_after (v := (.slice (some ⟨go17, 0, none⟩) x151002_1.length co20)) (v1 := (.slice (some ⟨go17, 0, none⟩) x151002_1.length co20)) (ok := (fun k_ => some k_ ≠ (u151004 : Value).ownBlock)) (by (with_reducible repeat (first | apply Kd.R_alloc | apply Kd.R_drewN | apply Kd.R_drew)); exact Kd.R_mono HO_151003.out (fun _ hk => ⟨hk.2, hk.1⟩)) hg (.inl rfl)); have n2_ := Aside0.mk (Kd.R_after (v := (.slice (some ⟨go17, 0, none⟩) x151002_1.length co20)) (v1 := (.slice (some ⟨go17, 0, none⟩) x151002_1.length co20)) (ok := (fun k_ => some k_ ≠ (u151003 : Value).ownBlock)) (by (with_reducible repeat (first | apply Kd.R_alloc | apply Kd.R_drewN | apply Kd.R_drew)); exact Kd.R_mono HO_151004.out (fun _ hk => ⟨hk.2, hk.1⟩)) hg (.inl rfl)); have n3_ := Aside0.mk (blk_grown (g := gb138) (o := .cells #[.int .i64 0, .int .i64 0, .slice none 0 0, .slice none 0 0, .slice none 0 0] 24 (0, 0)) (by (with_reducible repeat (first | refine blk_drewN ?_ _ | refine blk_drew ?_ | refine blk_alloc ?_ _)); exact BK138.out) hg (Kd.R_ne HO_151002.out BK138.out (by decide))); have n4_ := Aside0.mk (blk_grown (g := gb150) (o := .cells #[.int .i64 t139, .int .i64 t140, .slice (some ⟨go17, 0, none⟩) x151002_1.length co20, u151003, u151004] 24 (0, 0)) (by (with_reducible repeat (first | refine blk_drewN ?_ _ | refine blk_drew ?_ | refine blk_alloc ?_ _)); exact BK150.out) hg (Kd.R_ne HO_151002.out BK150.out (by decide))); have n5_ := Aside0.mk ((by rw [hw]; exact below_set (HB.out) GB17.out : Below w.heap.size w w22)); clear HO_151002; clear HO_151003; clear HO_151004; clear BK138; clear BK150; clear HB; have HO_151002 := n0_; have HO_151003 := n1_; have HO_151004 := n2_; have BK138 := n3_; have BK150 := n4_; have HB := n5_; clear n0_ n1_ n2_ n3_ n4_ n5_; clear hg hw hp_))
          go_roundg k1
          case measure => have := HK1.out; omega
          case rel => exact ⟨(wrap64 (x12_1 + 1)), (y151), (x151003_1), (x151004_1), (.slice (some ⟨go17, 0, none⟩) x151002_1.length co20), (u151003), (u151004), (by first | rfl | (simp; done) | (simp [*]; done)), H', ⟨by have := HK1.out; omega⟩, ⟨by (with_reducible repeat (first | apply Kd.R_alloc | apply Kd.R_drewN | apply Kd.R_drew)); exact HO_151002.out⟩, ⟨by (with_reducible repeat (first | apply Kd.R_alloc | apply Kd.R_drewN | apply Kd.R_drew)); exact Kd.R_mono HO_151003.out (fun _ hk => ⟨hk.2, hk.1⟩)⟩, ⟨by (with_reducible repeat (first | apply Kd.R_alloc | apply Kd.R_drewN | apply Kd.R_drew)); exact Kd.R_mono HO_151004.out (fun _ hk => ⟨hk.2, hk.1⟩)⟩, ⟨by (with_reducible repeat (first | refine blk_drewN ?_ _ | refine blk_drew ?_ | refine blk_alloc ?_ _)); exact BK138.out⟩, ⟨by (with_reducible repeat (first | refine blk_drewN ?_ _ | refine blk_drew ?_ | refine blk_alloc ?_ _)); exact BK150.out⟩, ⟨by repeat (first | (with_reducible first | exact HB.out | apply below_alloc | apply pw_below_drewN | apply below_drew1 | refine below_set ?_ GE138.out | refine below_set ?_ GE150.out) | exact HB.out)⟩⟩
        · rw [if_neg c16] at H
          exact absurd H (by simp)
      · rw [if_neg c15] at H
        have c15b0 : decide (x12_1 < (x151002_1.length : Int)) = false := decide_eq_false c15
        clear c15
        have H' := Aside0.mk H
        clear H
        have hnb23 := NB150_138.out
        have hnc23 := NB138_150.out
        have hcz24_0 : wr.cell? ⟨gb150, 0, none⟩ = some (.int .i64 t139) := (blk_cell BK150.out 0).trans rfl
        have hcz24_1 : wr.cell? ⟨gb150, 1, none⟩ = some (.int .i64 t140) := (blk_cell BK150.out 1).trans rfl
        have hcz24_2 : wr.cell? ⟨gb150, 2, none⟩ = some (u151002) := (blk_cell BK150.out 2).trans rfl
        have hcz24_3 : wr.cell? ⟨gb150, 3, none⟩ = some (u151003) := (blk_cell BK150.out 3).trans rfl
        have hcz24_4 : wr.cell? ⟨gb150, 4, none⟩ = some (u151004) := (blk_cell BK150.out 4).trans rfl
        have hfz24_0 := blk_frozen BK150.out 0
        have hfz24_1 := blk_frozen BK150.out 1
        have hfz24_2 := blk_frozen BK150.out 2
        have hfz24_3 := blk_frozen BK150.out 3
        have hfz24_4 := blk_frozen BK150.out 4
        obtain ⟨Ao25, co25, eo25⟩ := Kd.R_slice HO_151002.out
        subst eo25
        go_wp2
        go_loopg [13] k1 (fun kq v13 w' => ∃ (x13_2 : Int) (x151002_2 : List Int) (x151003_2 : List Int) (x151004_2 : List Int) (u151002 : Value) (u151003 : Value) (u151004 : Value), v13 = .int .i64 x13_2 ∧ Aside0 (cutroomref07_Flat.l1 kq a3 a4 x13_2 t139 t140 x151002_2 x151003_2 x151004_2 = some (r1, r2, r3, r4, r5)) ∧ Aside0 (kq ≤ k1) ∧ Aside0 (Kd.R (Kd.int .u8) 5 w' w.heap.size (fun k_ => some k_ ≠ (u151003 : Value).ownBlock ∧ some k_ ≠ (u151004 : Value).ownBlock) u151002 x151002_2) ∧ Aside0 (Kd.R (Kd.int .u8) 5 w' w.heap.size (fun k_ => some k_ ≠ (u151002 : Value).ownBlock ∧ some k_ ≠ (u151004 : Value).ownBlock) u151003 x151003_2) ∧ Aside0 (Kd.R (Kd.int .u8) 5 w' w.heap.size (fun k_ => some k_ ≠ (u151002 : Value).ownBlock ∧ some k_ ≠ (u151003 : Value).ownBlock) u151004 x151004_2) ∧ Aside0 (w'.heap[gb138]? = some (.cells #[.int .i64 0, .int .i64 0, (.slice none 0 0), (.slice none 0 0), (.slice none 0 0)] 24 (0, 0))) ∧ Aside0 (w'.heap[gb150]? = some (.cells #[.int .i64 t139, .int .i64 t140, u151002, u151003, u151004] 24 (0, 0))) ∧ Aside0 (Below w.heap.size w w'))
        case atStart => exact ⟨(0), (x151002_1), (x151003_1), (x151004_1), (.slice Ao25 x151002_1.length co25), (u151003), (u151004), (by first | rfl | (simp; done) | (simp [*]; done)), H', ⟨Nat.le_refl _⟩, ⟨by (with_reducible repeat (first | apply Kd.R_alloc | apply Kd.R_drewN | apply Kd.R_drew)); exact HO_151002.out⟩, ⟨by (with_reducible repeat (first | apply Kd.R_alloc | apply Kd.R_drewN | apply Kd.R_drew)); exact HO_151003.out⟩, ⟨by (with_reducible repeat (first | apply Kd.R_alloc | apply Kd.R_drewN | apply Kd.R_drew)); exact HO_151004.out⟩, ⟨by (with_reducible repeat (first | refine blk_drewN ?_ _ | refine blk_drew ?_ | refine blk_alloc ?_ _)); exact BK138.out⟩, ⟨by (with_reducible repeat (first | refine blk_drewN ?_ _ | refine blk_drew ?_ | refine blk_alloc ?_ _)); exact BK150.out⟩, ⟨by repeat (first | (with_reducible first | exact HB.out | apply below_alloc | apply pw_below_drewN | apply below_drew1 | refine below_set ?_ GE138.out | refine below_set ?_ GE150.out) | exact HB.out)⟩⟩
        case round =>
          clear H'
          try clear c1
          try clear p1
          try clear q1
          try clear hx1
          try clear c2
          try clear p2
          try clear p6
          try clear c10
          try clear c15
          try clear c15b0
          try clear c16
          try clear c16b0
          try clear p17
          try clear q17
          try clear hx17
          try clear hf17
          try clear c18
          try clear c19
          try clear c23
          try clear hcz11_0
          try clear hcz11_1
          try clear hcz11_2
          try clear hcz11_3
          try clear hcz11_4
          try clear hcz19_0
          try clear hcz19_1
          try clear hcz19_2
          try clear hcz19_3
          try clear hcz19_4
          try clear hcz24_0
          try clear hcz24_1
          try clear hcz24_2
          try clear hcz24_3
          try clear hcz24_4
          try clear hfz11_0
          try clear hfz11_1
          try clear hfz11_2
          try clear hfz11_3
          try clear hfz11_4
          try clear hfz19_0
          try clear hfz19_1
          try clear hfz19_2
          try clear hfz19_3
          try clear hfz19_4
          try clear hfz24_0
          try clear hfz24_1
          try clear hfz24_2
          try clear hfz24_3
          try clear hfz24_4
          try clear hx17_0
          try clear p17
          try clear p2
          try clear q17
          obtain ⟨x13_2, x151002_2, x151003_2, x151004_2, u151002, u151003, u151004, rfl, HA, HK2, HO_151002, HO_151003, HO_151004, BK138, BK150, HB⟩ := hrel
          cases gk with
          | zero => exact absurd HA.out (by simp [cutroomref07_Flat.l1])
          | succ k2 =>
            have H := HA.out
            clear HA
            simp only [cutroomref07_Flat.l1] at H
            by_cases c26 : x13_2 < (x151003_2.length : Int)
            · rw [if_pos c26] at H
              have c26b0 : decide (x13_2 < (x151003_2.length : Int)) = true := decide_eq_true c26
              clear c26
              by_cases c27 : 0 ≤ x13_2
              · rw [if_pos c27] at H
                have c27b0 : decide (0 ≤ x13_2) = true := decide_eq_true c27
                clear c27
                obtain ⟨y152, hy152⟩ : ∃ y_ : List Int, y_ = (x151003_2.set (x13_2 : Int).toNat a3) := ⟨_, rfl⟩
                replace H : (if x13_2 < (x151004_2.length : Int) then (cutroomref07_Flat.l1 k2 a3 a4 (wrap64 (x13_2 + 1)) t139 t140 x151002_2 y152 (x151004_2.set (x13_2 : Int).toNat a4)) else (none)) = some (r1, r2, r3, r4, r5) := by first | (rw [hy152]; with_reducible exact H) | (have H2_ := (Option.bind_some _ _).symm.trans H; rw [hy152]; with_reducible exact H2_) | (have H2_ := (Option.bind_some _ _).symm.trans H; with_reducible exact H2_) | with_reducible exact H | (rw [hy152]; exact H) | exact H
                have Ny152 := Aside0.mk hy152
                clear hy152
                by_cases c29 : x13_2 < (x151004_2.length : Int)
                · rw [if_pos c29] at H
                  have c29b0 : decide (x13_2 < (x151004_2.length : Int)) = true := decide_eq_true c29
                  clear c29
                  obtain ⟨y153, hy153⟩ : ∃ y_ : List Int, y_ = (x151004_2.set (x13_2 : Int).toNat a4) := ⟨_, rfl⟩
                  replace H : (cutroomref07_Flat.l1 k2 a3 a4 (wrap64 (x13_2 + 1)) t139 t140 x151002_2 y152 y153) = some (r1, r2, r3, r4, r5) := by first | (rw [hy153]; with_reducible exact H) | (have H2_ := (Option.bind_some _ _).symm.trans H; rw [hy153]; with_reducible exact H2_) | (have H2_ := (Option.bind_some _ _).symm.trans H; with_reducible exact H2_) | with_reducible exact H | (rw [hy153]; exact H) | exact H
                  have Ny153 := Aside0.mk hy153
                  clear hy153
                  have H' := Aside0.mk H
                  clear H
                  have hnb31 := NB150_138.out
                  have hnc31 := NB138_150.out
                  have hcz32_0 : wr.cell? ⟨gb150, 0, none⟩ = some (.int .i64 t139) := (blk_cell BK150.out 0).trans rfl
                  have hcz32_1 : wr.cell? ⟨gb150, 1, none⟩ = some (.int .i64 t140) := (blk_cell BK150.out 1).trans rfl
                  have hcz32_2 : wr.cell? ⟨gb150, 2, none⟩ = some (u151002) := (blk_cell BK150.out 2).trans rfl
                  have hcz32_3 : wr.cell? ⟨gb150, 3, none⟩ = some (u151003) := (blk_cell BK150.out 3).trans rfl
                  have hcz32_4 : wr.cell? ⟨gb150, 4, none⟩ = some (u151004) := (blk_cell BK150.out 4).trans rfl
                  have hfz32_0 := blk_frozen BK150.out 0
                  have hfz32_1 := blk_frozen BK150.out 1
                  have hfz32_2 := blk_frozen BK150.out 2
                  have hfz32_3 := blk_frozen BK150.out 3
                  have hfz32_4 := blk_frozen BK150.out 4
                  obtain ⟨Ao33, co33, eo33⟩ := Kd.R_slice HO_151003.out
                  subst eo33
                  try go_wp2
                  have n0_ := Aside0.mk (Kd.R_drew HO_151002.out)
                  have n1_ := Aside0.mk (Kd.R_drew HO_151003.out)
                  have n2_ := Aside0.mk (Kd.R_drew HO_151004.out)
                  have n3_ := Aside0.mk (blk_drew BK138.out)
                  have n4_ := Aside0.mk (blk_drew BK150.out)
                  have n5_ := Aside0.mk (below_drew1 HB.out)
                  clear HO_151002
                  clear HO_151003
                  clear HO_151004
                  clear BK138
                  clear BK150
                  clear HB
                  have HO_151002 := n0_
                  have HO_151003 := n1_
                  have HO_151004 := n2_
                  have BK138 := n3_
                  have BK150 := n4_
                  have HB := n5_
                  clear n0_ n1_ n2_ n3_ n4_ n5_
                  have p28 : 0 ≤ (x13_2 : Int) := of_decide_eq_true (by first | (with_reducible assumption) | assumption)
                  have q28 : (x13_2 : Int) < ((x151003_2.length : Int) : Int) := of_decide_eq_true (by first | (with_reducible assumption) | assumption)
                  obtain ⟨go28, co28, eo28, gb28, gl28, cl28, HG28⟩ := Kd.R_form HO_151003.out (by omega)
                  (first | cases eo28 | (injection eo28 with ea_ en_ ec_; (first | subst ea_ | (injection ea_ with ea_; subst ea_)); subst ec_; clear en_))
                  have GB28 := Aside0.mk gb28
                  have GG28 := Aside0.mk HG28
                  clear gb28 gl28 HG28
                  obtain ⟨hx28_0, hf28_0⟩ := Kd.R_celln 0 HO_151003.out (x13_2 : Int) p28 q28
                  replace p28 := eq_true p28
                  replace q28 := eq_true q28
                  have HP35 := Kd.R_putn HO_151003.out (x13_2 : Int) a3
                  rw [← Ny152.out] at HP35
                  have HQ35 := Aside0.mk HP35
                  clear HP35
                  have p30 : 0 ≤ (x13_2 : Int) := of_decide_eq_true (by first | (with_reducible assumption) | assumption)
                  have q30 : (x13_2 : Int) < ((x151004_2.length : Int) : Int) := of_decide_eq_true (by first | (with_reducible assumption) | assumption)
                  obtain ⟨go30, co30, eo30, gb30, gl30, cl30, HG30⟩ := Kd.R_form HO_151004.out (by omega)
                  (first | cases eo30 | (injection eo30 with ea_ en_ ec_; (first | subst ea_ | (injection ea_ with ea_; subst ea_)); subst ec_; clear en_))
                  have GB30 := Aside0.mk gb30
                  have GG30 := Aside0.mk HG30
                  clear gb30 gl30 HG30
                  obtain ⟨hx30_0, hf30_0⟩ := Kd.R_celln 0 (Kd.R_far (p := ⟨go28, (x13_2 : Int).toNat, none⟩) (Kd.R_mono HO_151004.out (fun k_ hk => (⟨hk, fun e_ => hk.2 (by rw [e_]; rfl)⟩ : _ ∧ k_ ≠ go28))) (fun _ hk => hk.2) (.int .u8 a3)) (x13_2 : Int) p30 q30
                  replace p30 := eq_true p30
                  replace q30 := eq_true q30
                  have HP36 := Kd.R_putn (Kd.R_far (p := ⟨go28, (x13_2 : Int).toNat, none⟩) (Kd.R_mono HO_151004.out (fun k_ hk => (⟨hk, fun e_ => hk.2 (by rw [e_]; rfl)⟩ : _ ∧ k_ ≠ go28))) (fun _ hk => hk.2) (.int .u8 a3)) (x13_2 : Int) a4
                  rw [← Ny153.out] at HP36
                  have HQ36 := Aside0.mk HP36
                  clear HP36
                  refine start_ (n := 12) (S := fun w' => w'.cell? ⟨gb150, 0, none⟩ = some (.int .i64 t139) ∧ w'.cell? ⟨gb150, 1, none⟩ = some (.int .i64 t140) ∧ w'.cell? ⟨gb150, 2, none⟩ = some (u151002) ∧ w'.cell? ⟨gb150, 3, none⟩ = some (.slice (some ⟨go28, 0, none⟩) x151003_2.length co33) ∧ w'.cell? ⟨gb150, 4, none⟩ = some (.slice (some ⟨go30, 0, none⟩) x151004_2.length co30)) (ds := [11]) #[false, false, false, false, false, false, false, false, false, false, false, false] (by kernel_rfl) rfl rfl ⟨(blk_cell BK150.out 0).trans rfl, (blk_cell BK150.out 1).trans rfl, (blk_cell BK150.out 2).trans rfl, (blk_cell BK150.out 3).trans rfl, (blk_cell BK150.out 4).trans rfl⟩ (fun hHeld => ?_); refine with_tabW cutroomref07_Flat.tab9 cutroomref07_Flat.bits9 (fun HT_ HW_ => ?_)
                  generalize wr.drew = w34 at HO_151002 HO_151003 HO_151004 BK138 BK150 HB GG28 GG30 HQ35 HQ36 hf28_0 hf30_0 hx28_0 hx30_0 hHeld ⊢
                  refine pure_ (i := 0) (N := some 36) (v := ?_) (a' := ?_) #[true, false, false, false, false, false, false, false, false, false, false, false] rfl rfl (any_of HT_.out (by kernel_rfl)) (fun _ _ _ h => h) (Or.inl ⟨by rfl, ?_⟩) ?_ ?_
                  rotate_left
                  · intro w'
                    go_simp
                    with_reducible rfl
                  rotate_left
                  · simp only [Act.put, List.setIfInBounds_toArray, List.set_cons_zero, List.set_cons_succ, i64_w, i32_w]
                    rfl
                  refine pure_ (i := 2) (N := some 38) (v := ?_) (a' := ?_) #[true, false, true, false, false, false, false, false, false, false, false, false] rfl rfl (any_of HT_.out (by kernel_rfl)) (fun _ _ _ h => h) (Or.inl ⟨by rfl, ?_⟩) ?_ ?_
                  rotate_left
                  · intro w'
                    go_simp
                    with_reducible rfl
                  rotate_left
                  · simp only [Act.put, List.setIfInBounds_toArray, List.set_cons_zero, List.set_cons_succ, i64_w, i32_w]
                    rfl
                  refine pure_ (i := 3) (N := some 39) (v := ?_) (a' := ?_) #[true, false, true, true, false, false, false, false, false, false, false, false] rfl rfl (any_of HT_.out (by kernel_rfl)) (fun _ _ _ h => h) (Or.inl ⟨by rfl, ?_⟩) ?_ ?_
                  rotate_left
                  · intro w'
                    go_simp
                    with_reducible rfl
                  rotate_left
                  · simp only [Act.put, List.setIfInBounds_toArray, List.set_cons_zero, List.set_cons_succ, i64_w, i32_w]
                    rfl
                  refine pure_ (i := 5) (N := some 41) (v := ?_) (a' := ?_) #[true, false, true, true, false, true, false, false, false, false, false, false] rfl rfl (any_of HT_.out (by kernel_rfl)) (fun _ _ _ h => h) (Or.inl ⟨by rfl, ?_⟩) ?_ ?_
                  rotate_left
                  · intro w'
                    go_simp
                    with_reducible rfl
                  rotate_left
                  · simp only [Act.put, List.setIfInBounds_toArray, List.set_cons_zero, List.set_cons_succ, i64_w, i32_w]
                    rfl
                  refine pure_ (i := 6) (N := some 42) (v := ?_) (a' := ?_) #[true, false, true, true, false, true, true, false, false, false, false, false] rfl rfl (any_of HT_.out (by kernel_rfl)) (fun _ _ _ h => h) (Or.inl ⟨by rfl, ?_⟩) ?_ ?_
                  rotate_left
                  · intro w'
                    go_simp
                    with_reducible rfl
                  rotate_left
                  · simp only [Act.put, List.setIfInBounds_toArray, List.set_cons_zero, List.set_cons_succ, i64_w, i32_w]
                    rfl
                  refine pure_ (i := 7) (N := some 43) (v := ?_) (a' := ?_) #[true, false, true, true, false, true, true, true, false, false, false, false] rfl rfl (any_of HT_.out (by kernel_rfl)) (fun _ _ _ h => h) (Or.inl ⟨by rfl, ?_⟩) ?_ ?_
                  rotate_left
                  · intro w'
                    go_simp
                    with_reducible rfl
                  rotate_left
                  · simp only [Act.put, List.setIfInBounds_toArray, List.set_cons_zero, List.set_cons_succ, i64_w, i32_w]
                    rfl
                  refine take_ (i := 1) (N := some 37) (v := ?_) (a' := ?_) #[true, true, true, true, false, true, true, true, false, false, false, false] rfl rfl (take_ofW HT_.out HW_.out (by kernel_rfl)) (fun _ _ _ h => h) (Or.inl ⟨by rfl, ?_⟩) hHeld ?_ ?_
                  rotate_left
                  · rintro w' ⟨s0, s1, s2, s3, s4⟩
                    go_simp
                    with_reducible rfl
                  rotate_left
                  · simp only [Act.put, List.setIfInBounds_toArray, List.set_cons_zero, List.set_cons_succ, i64_w, i32_w]
                    rfl
                  refine pure_ (i := 8) (N := some 44) (v := ?_) (a' := ?_) #[true, true, true, true, false, true, true, true, true, false, false, false] rfl rfl (any_of HT_.out (by kernel_rfl)) (fun _ _ _ h => h) (Or.inl ⟨by rfl, ?_⟩) ?_ ?_
                  rotate_left
                  · intro w'
                    go_simp
                    with_reducible rfl
                  rotate_left
                  · simp only [Act.put, List.setIfInBounds_toArray, List.set_cons_zero, List.set_cons_succ, i64_w, i32_w]
                    rfl
                  refine take_ (i := 4) (N := some 40) (v := ?_) (a' := ?_) #[true, true, true, true, true, true, true, true, true, false, false, false] rfl rfl (take_ofW HT_.out HW_.out (by kernel_rfl)) (fun _ _ _ h => h) (Or.inl ⟨by rfl, ?_⟩) hHeld ?_ ?_
                  rotate_left
                  · rintro w' ⟨s0, s1, s2, s3, s4⟩
                    go_simp
                    with_reducible rfl
                  rotate_left
                  · simp only [Act.put, List.setIfInBounds_toArray, List.set_cons_zero, List.set_cons_succ, i64_w, i32_w]
                    rfl
                  refine one_ (i := 9) (N := none) #[true, true, true, true, true, true, true, true, true, true, false, false] rfl rfl (one_of HT_.out (by kernel_rfl)) (by decide) (fun K hK => ?_)
                  refine skip_ (w1 := ?_) (by rfl) rfl ?_ ?_
                  rotate_left
                  · go_simp
                    rfl
                  refine hK.out _ _ ⟨((cell_far (p := ⟨go28, _, none⟩) (fun e_ => Kd.R_ne HO_151003.out BK150.out (by decide) (congrArg some e_)) _).trans (hHeld.1)), ((cell_far (p := ⟨go28, _, none⟩) (fun e_ => Kd.R_ne HO_151003.out BK150.out (by decide) (congrArg some e_)) _).trans (hHeld.2.1)), ((cell_far (p := ⟨go28, _, none⟩) (fun e_ => Kd.R_ne HO_151003.out BK150.out (by decide) (congrArg some e_)) _).trans (hHeld.2.2.1)), ((cell_far (p := ⟨go28, _, none⟩) (fun e_ => Kd.R_ne HO_151003.out BK150.out (by decide) (congrArg some e_)) _).trans (hHeld.2.2.2.1)), ((cell_far (p := ⟨go28, _, none⟩) (fun e_ => Kd.R_ne HO_151003.out BK150.out (by decide) (congrArg some e_)) _).trans (hHeld.2.2.2.2))⟩ (fun hHeld => ?_)
                  clear hK K
                  refine pure_ (i := 10) (N := some 45) (v := ?_) (a' := ?_) #[true, true, true, true, true, true, true, true, true, true, true, false] rfl rfl (any_of HT_.out (by kernel_rfl)) (fun _ _ _ h => h) (Or.inl ⟨by rfl, ?_⟩) ?_ ?_
                  rotate_left
                  · intro w'
                    go_simp
                    with_reducible rfl
                  rotate_left
                  · simp only [Act.put, List.setIfInBounds_toArray, List.set_cons_zero, List.set_cons_succ, i64_w, i32_w]
                    rfl
                  refine last_ (i := 11) (N := none) #[true, true, true, true, true, true, true, true, true, true, true, true] rfl rfl (one_of HT_.out (by kernel_rfl)) (by decide) (fun K hK => ?_)
                  refine skip_ (w1 := ?_) (by rfl) rfl ?_ ?_
                  rotate_left
                  · go_simp
                    rfl
                  refine hK.out _ _ ?_
                  clear hK K
                  refine done_ (done_of HT_.out (by kernel_rfl)) ?_
                  try go_wp2
                  go_roundg k2
                  case measure => have := HK1.out; have := HK2.out; omega
                  case rel => exact ⟨(wrap64 (x13_2 + 1)), (x151002_2), (y152), (y153), (u151002), (.slice (some ⟨go28, 0, none⟩) x151003_2.length co33), (.slice (some ⟨go30, 0, none⟩) x151004_2.length co30), (by first | rfl | (simp; done) | (simp [*]; done)), H', ⟨by have := HK1.out; have := HK2.out; omega⟩, ⟨by (with_reducible repeat (first | apply Kd.R_alloc | apply Kd.R_drewN | apply Kd.R_drew)); exact Kd.R_mono (Kd.R_far (p := ⟨go30, (x13_2 : Int).toNat, none⟩) (Kd.R_far (p := ⟨go28, (x13_2 : Int).toNat, none⟩) (Kd.R_mono (Kd.R_mono HO_151002.out (fun k_ hk => (⟨hk, fun e_ => hk.1 (by rw [e_]; rfl)⟩ : _ ∧ k_ ≠ go28))) (fun k_ hk => (⟨hk, fun e_ => hk.1.2 (by rw [e_]; rfl)⟩ : _ ∧ k_ ≠ go30))) (fun _ hk => hk.1.2) (.int .u8 a3)) (fun _ hk => hk.2) (.int .u8 a4)) (fun _ hk => ⟨hk.1.1.1, hk.1.1.2⟩)⟩, ⟨by (with_reducible repeat (first | apply Kd.R_alloc | apply Kd.R_drewN | apply Kd.R_drew)); exact Kd.R_mono (Kd.R_far (p := ⟨go30, (x13_2 : Int).toNat, none⟩) (Kd.R_mono HQ35.out (fun k_ hk => (⟨hk, fun e_ => hk.2 (by rw [e_]; rfl)⟩ : _ ∧ k_ ≠ go30))) (fun _ hk => hk.2) (.int .u8 a4)) (fun _ hk => ⟨hk.1.1, hk.1.2⟩)⟩, ⟨by (with_reducible repeat (first | apply Kd.R_alloc | apply Kd.R_drewN | apply Kd.R_drew)); exact Kd.R_mono HQ36.out (fun _ hk => ⟨hk.1.1, hk.1.2⟩)⟩, ⟨by (with_reducible repeat (first | refine blk_drewN ?_ _ | refine blk_drew ?_ | refine blk_alloc ?_ _)); refine blk_far ?_ (by have h_ := Kd.R_ne HO_151004.out BK138.out (by decide); intro e_; exact h_ (by rw [e_]; rfl)) _; (with_reducible repeat (first | refine blk_drewN ?_ _ | refine blk_drew ?_ | refine blk_alloc ?_ _)); refine blk_far ?_ (by have h_ := Kd.R_ne HO_151003.out BK138.out (by decide); intro e_; exact h_ (by rw [e_]; rfl)) _; (with_reducible repeat (first | refine blk_drewN ?_ _ | refine blk_drew ?_ | refine blk_alloc ?_ _)); exact BK138.out⟩, ⟨by (with_reducible repeat (first | refine blk_drewN ?_ _ | refine blk_drew ?_ | refine blk_alloc ?_ _)); refine blk_far ?_ (by have h_ := Kd.R_ne HO_151004.out BK150.out (by decide); intro e_; exact h_ (by rw [e_]; rfl)) _; (with_reducible repeat (first | refine blk_drewN ?_ _ | refine blk_drew ?_ | refine blk_alloc ?_ _)); refine blk_far ?_ (by have h_ := Kd.R_ne HO_151003.out BK150.out (by decide); intro e_; exact h_ (by rw [e_]; rfl)) _; (with_reducible repeat (first | refine blk_drewN ?_ _ | refine blk_drew ?_ | refine blk_alloc ?_ _)); exact BK150.out⟩, ⟨by repeat (first | (with_reducible first | exact HB.out | apply below_alloc | apply pw_below_drewN | apply below_drew1 | refine below_set ?_ GB28.out | refine below_set ?_ GB30.out | refine below_set ?_ GE138.out | refine below_set ?_ GE150.out) | exact HB.out)⟩⟩
                · rw [if_neg c29] at H
                  exact absurd H (by simp)
              · rw [if_neg c27] at H
                exact absurd H (by simp)
            · rw [if_neg c26] at H
              have c26b0 : decide (x13_2 < (x151003_2.length : Int)) = false := decide_eq_false c26
              clear c26
              simp only [Option.some.injEq, Prod.mk.injEq] at H
              obtain ⟨rfl, rfl, rfl, rfl, rfl⟩ := H
              have hnb37 := NB150_138.out
              have hnc37 := NB138_150.out
              have hcz38_0 : wr.cell? ⟨gb150, 0, none⟩ = some (.int .i64 t139) := (blk_cell BK150.out 0).trans rfl
              have hcz38_1 : wr.cell? ⟨gb150, 1, none⟩ = some (.int .i64 t140) := (blk_cell BK150.out 1).trans rfl
              have hcz38_2 : wr.cell? ⟨gb150, 2, none⟩ = some (u151002) := (blk_cell BK150.out 2).trans rfl
              have hcz38_3 : wr.cell? ⟨gb150, 3, none⟩ = some (u151003) := (blk_cell BK150.out 3).trans rfl
              have hcz38_4 : wr.cell? ⟨gb150, 4, none⟩ = some (u151004) := (blk_cell BK150.out 4).trans rfl
              have hfz38_0 := blk_frozen BK150.out 0
              have hfz38_1 := blk_frozen BK150.out 1
              have hfz38_2 := blk_frozen BK150.out 2
              have hfz38_3 := blk_frozen BK150.out 3
              have hfz38_4 := blk_frozen BK150.out 4
              obtain ⟨Ao39, co39, eo39⟩ := Kd.R_slice HO_151003.out
              subst eo39
              have hcz40_0 : wr.cell? ⟨gb138, 0, none⟩ = some (.int .i64 0) := (blk_cell BK138.out 0).trans rfl
              have hcz40_1 : wr.cell? ⟨gb138, 1, none⟩ = some (.int .i64 0) := (blk_cell BK138.out 1).trans rfl
              have hcz40_2 : wr.cell? ⟨gb138, 2, none⟩ = some (.slice none 0 0) := (blk_cell BK138.out 2).trans rfl
              have hcz40_3 : wr.cell? ⟨gb138, 3, none⟩ = some (.slice none 0 0) := (blk_cell BK138.out 3).trans rfl
              have hcz40_4 : wr.cell? ⟨gb138, 4, none⟩ = some (.slice none 0 0) := (blk_cell BK138.out 4).trans rfl
              have hfz40_0 := blk_frozen BK138.out 0
              have hfz40_1 := blk_frozen BK138.out 1
              have hfz40_2 := blk_frozen BK138.out 2
              have hfz40_3 := blk_frozen BK138.out 3
              have hfz40_4 := blk_frozen BK138.out 4
              obtain ⟨Ao41, co41, eo41⟩ := Kd.R_slice HO_151002.out
              subst eo41
              obtain ⟨Ao42, co42, eo42⟩ := Kd.R_slice HO_151004.out
              subst eo42
              go_wp2
              refine bodyPost_ret (results_cell_row rfl _ _ gb138 24 #[.int .i64 t139, .int .i64 t140, .slice Ao41 x151002_2.length co41, .slice Ao39 x151003_2.length co39, .slice Ao42 x151004_2.length co42] (0, 0) _ rfl (by (with_reducible repeat (first | refine blk_drewN ?_ _ | refine blk_drew ?_ | refine blk_alloc ?_ _)); refine blk_put (cs := #[.int .i64 t139, .int .i64 t140, .slice Ao41 x151002_2.length co41, .slice Ao39 x151003_2.length co39, .slice none 0 0]) ?_ 4 _ rfl; (with_reducible repeat (first | refine blk_drewN ?_ _ | refine blk_drew ?_ | refine blk_alloc ?_ _)); refine blk_put (cs := #[.int .i64 t139, .int .i64 t140, .slice Ao41 x151002_2.length co41, .slice none 0 0, .slice none 0 0]) ?_ 3 _ rfl; (with_reducible repeat (first | refine blk_drewN ?_ _ | refine blk_drew ?_ | refine blk_alloc ?_ _)); refine blk_put (cs := #[.int .i64 t139, .int .i64 t140, .slice none 0 0, .slice none 0 0, .slice none 0 0]) ?_ 2 _ rfl; (with_reducible repeat (first | refine blk_drewN ?_ _ | refine blk_drew ?_ | refine blk_alloc ?_ _)); refine blk_put (cs := #[.int .i64 t139, .int .i64 0, .slice none 0 0, .slice none 0 0, .slice none 0 0]) ?_ 1 _ rfl; (with_reducible repeat (first | refine blk_drewN ?_ _ | refine blk_drew ?_ | refine blk_alloc ?_ _)); refine blk_put (cs := #[.int .i64 0, .int .i64 0, .slice none 0 0, .slice none 0 0, .slice none 0 0]) ?_ 0 _ rfl; (with_reducible repeat (first | refine blk_drewN ?_ _ | refine blk_drew ?_ | refine blk_alloc ?_ _)); exact BK138.out) Try.underlying24 rfl (by kernel_rfl)) rfl ?_
              exact ⟨_, _, _, by first | rfl | (simp [errW_none, errW_some] <;> rfl) | (simp [*, errW_none, errW_some] <;> rfl), by (with_reducible repeat (first | apply Kd.R_alloc | apply Kd.R_drewN | apply Kd.R_drew)); exact Kd.R_mono (Kd.R_far (p := ⟨gb138, 4, none⟩) (Kd.R_far (p := ⟨gb138, 3, none⟩) (Kd.R_far (p := ⟨gb138, 2, none⟩) (Kd.R_far (p := ⟨gb138, 1, none⟩) (Kd.R_far (p := ⟨gb138, 0, none⟩) (Kd.R_types HO_151002.out BK138.out (by decide)) (fun _ hk => hk.2) (.int .i64 t139)) (fun _ hk => hk.2) (.int .i64 t140)) (fun _ hk => hk.2) (.slice Ao41 x151002_2.length co41)) (fun _ hk => hk.2) (.slice Ao39 x151003_2.length co39)) (fun _ hk => hk.2) (.slice Ao42 x151004_2.length co42)) (fun _ hk => ⟨hk.1.1, hk.1.2⟩), by (with_reducible repeat (first | apply Kd.R_alloc | apply Kd.R_drewN | apply Kd.R_drew)); exact Kd.R_mono (Kd.R_far (p := ⟨gb138, 4, none⟩) (Kd.R_far (p := ⟨gb138, 3, none⟩) (Kd.R_far (p := ⟨gb138, 2, none⟩) (Kd.R_far (p := ⟨gb138, 1, none⟩) (Kd.R_far (p := ⟨gb138, 0, none⟩) (Kd.R_types HO_151003.out BK138.out (by decide)) (fun _ hk => hk.2) (.int .i64 t139)) (fun _ hk => hk.2) (.int .i64 t140)) (fun _ hk => hk.2) (.slice Ao41 x151002_2.length co41)) (fun _ hk => hk.2) (.slice Ao39 x151003_2.length co39)) (fun _ hk => hk.2) (.slice Ao42 x151004_2.length co42)) (fun _ hk => ⟨hk.1.1, hk.1.2⟩), by (with_reducible repeat (first | apply Kd.R_alloc | apply Kd.R_drewN | apply Kd.R_drew)); exact Kd.R_mono (Kd.R_far (p := ⟨gb138, 4, none⟩) (Kd.R_far (p := ⟨gb138, 3, none⟩) (Kd.R_far (p := ⟨gb138, 2, none⟩) (Kd.R_far (p := ⟨gb138, 1, none⟩) (Kd.R_far (p := ⟨gb138, 0, none⟩) (Kd.R_types HO_151004.out BK138.out (by decide)) (fun _ hk => hk.2) (.int .i64 t139)) (fun _ hk => hk.2) (.int .i64 t140)) (fun _ hk => hk.2) (.slice Ao41 x151002_2.length co41)) (fun _ hk => hk.2) (.slice Ao39 x151003_2.length co39)) (fun _ hk => hk.2) (.slice Ao42 x151004_2.length co42)) (fun _ hk => ⟨hk.1.1, hk.1.2⟩), by repeat (first | (with_reducible first | exact HB.out | apply below_alloc | apply pw_below_drewN | apply below_drew1 | refine below_set ?_ GE138.out | refine below_set ?_ GE150.out) | exact HB.out)⟩

end Go.Proofs.Ytnihjbcdlgfklaa.PMotionMirror
