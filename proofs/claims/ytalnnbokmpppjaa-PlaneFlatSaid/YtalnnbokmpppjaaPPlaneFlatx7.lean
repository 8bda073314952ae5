-- Written by a program of this session, after the form of the kit's print; each text is checked by Lean alone.
import Derived.Test.YtalnnbokmpppjaaPPlaneFlatx0
import Derived.Test.YtalnnbokmpppjaaPPlaneFlatx3
import Derived.Test.YtalnnbokmpppjaaPPlaneFlatx4
import Derived.Test.YtalnnbokmpppjaaPPlaneFlatx6
namespace Go.Proofs.Ytalnnbokmpppjaa.PPlaneFlat
open Go.RowKit Go.Proofs.YtalnnbokmpppjaaW.PrintWords Go.Proofs.YtalnnbokmpppjaaW.PrintLast Go.Proofs.YtalnnbokmpppjaaW.PrintMore
attribute [local go_sem] max2_int min2_int max_two min_two max_three min_three max_four min_four   -- for this text's walks alone
set_option linter.unusedVariables false
set_option linter.unusedSimpArgs false

/-! ### cutroomlaw07_PlaneFlat: function 4 -/
def cutroomlaw07_PlaneFlat.f (k : Nat) (a0 : Int) (a1 : Int) (a2 : Int) (a3 : Int) (a4 : Int) : Option (Bool) := (plane_Flat.f k a0 a1 a2 a3 a4).bind fun bt200 => ((cutroomref07_Size.f a0 a1).bind fun t213 => (if t213 = true then ((cutroomlaw07_awake.f k).bind fun t215 => (if t215 = true then (if bt200.2.2.2.2.2 = 0 then ((cutroomref07_Flat.f k a0 a1 a2 a3 a4).bind fun bt216 => ((cutroomref07_Equal.f bt200.1 bt200.2.1 bt200.2.2.1 bt200.2.2.2.1 bt200.2.2.2.2.1 bt216.1 bt216.2.1 bt216.2.2.1 bt216.2.2.2.1 bt216.2.2.2.2).bind fun t227 => (some t227))) else (some false)) else (some false))) else ((cutroomlaw07_awake.f k).bind fun t214 => (if t214 = true then (some (bt200.2.2.2.2.2 == 1)) else (some false)))))
theorem cutroomlaw07_PlaneFlat.mono : ∀ a0 a1 a2 a3 a4 k, LeO (cutroomlaw07_PlaneFlat.f k a0 a1 a2 a3 a4) (cutroomlaw07_PlaneFlat.f (k + 1) a0 a1 a2 a3 a4) := by
  intro a0 a1 a2 a3 a4 k
  unfold cutroomlaw07_PlaneFlat.f
  repeat' first
      | (with_reducible exact cutroomlaw07_awake.mono _)
      | (with_reducible exact cutroomref07_Flat.mono _ _ _ _ _ _)
      | (with_reducible exact plane_Flat.mono _ _ _ _ _ _)
      | (with_reducible exact LeO.refl _)
      | (with_reducible exact LeO.none _)
      | (with_reducible refine LeO.ite ?_ ?_)
      | (with_reducible refine LeO.bind ?_ (fun _ => ?_))
      | exact cutroomlaw07_awake.mono _
      | exact cutroomref07_Flat.mono _ _ _ _ _ _
      | exact plane_Flat.mono _ _ _ _ _ _
      | exact LeO.none _
      | refine LeO.ite ?_ ?_
      | refine LeO.bind ?_ (fun _ => ?_)
def cutroomlaw07_PlaneFlat.T4 : Bool × List (List Nat × List Nat) := (true, [([], []), ([0, 0], [0]), ([1], [1]), ([2, 1], [1, 2]), ([1, 3], [1, 3]), ([4, 1], [4]), ([5], [5]), ([5], [5]), ([5], [5]), ([5], [5]), ([5], [5]), ([5], [5]), ([7, 8, 9, 10, 11, 5, 5], [5, 7, 8, 9, 10, 11]), ([6, 12, 12, 5], [5, 6, 12]), ([5, 13], [5, 13]), ([14, 13, 0, 1, 2, 3, 4, 5, 6, 7, 8, 9, 10, 11, 12, 13, 14], [14])])
def cutroomlaw07_PlaneFlat.B4 : List Nat := [0, 1, 3, 7, 15, 31, 63, 63, 63, 63, 63, 63, 4031, 8191, 16383, 32767]
theorem cutroomlaw07_PlaneFlat.tab4 : rtab .any (opsOf Try.f4 4) = cutroomlaw07_PlaneFlat.T4 := by kernel_rfl
theorem cutroomlaw07_PlaneFlat.bits4 : waitsOk cutroomlaw07_PlaneFlat.T4.2 cutroomlaw07_PlaneFlat.B4 = true := by kernel_rfl
set_option maxHeartbeats 8000000 in
set_option maxRecDepth 100000 in
theorem cutroomlaw07_PlaneFlat.calls (k : Nat) (a0 : Int) (a1 : Int) (a2 : Int) (a3 : Int) (a4 : Int) (r : Bool) (w : World) (h : cutroomlaw07_PlaneFlat.f k a0 a1 a2 a3 a4 = some r) :
    Calls Try.prog 4 #[.int .i64 a0, .int .i64 a1, .int .u8 a2, .int .u8 a3, .int .u8 a4] w fun e w' => e = .returned (.bool r) ∧ Below w.heap.size w w' := by
  have hu24 := Try.underlying24
  have HB := Aside0.mk (Below.refl w.heap.size w)
  have H : ((plane_Flat.f k a0 a1 a2 a3 a4).bind fun bt200 => ((cutroomref07_Size.f a0 a1).bind fun t213 => (if t213 = true then ((cutroomlaw07_awake.f k).bind fun t215 => (if t215 = true then (if bt200.2.2.2.2.2 = 0 then ((cutroomref07_Flat.f k a0 a1 a2 a3 a4).bind fun bt216 => ((cutroomref07_Equal.f bt200.1 bt200.2.1 bt200.2.2.1 bt200.2.2.2.1 bt200.2.2.2.2.1 bt216.1 bt216.2.1 bt216.2.2.1 bt216.2.2.2.1 bt216.2.2.2.2).bind fun t227 => (some t227))) else (some false)) else (some false))) else ((cutroomlaw07_awake.f k).bind fun t214 => (if t214 = true then (some (bt200.2.2.2.2.2 == 1)) else (some false)))))) = some r := h
  clear h
  replace H := Option.bind_eq_some_iff.mp H
  obtain ⟨⟨t200, t201, t202, t205, t208, t211⟩, A60, H⟩ := H
  replace H : ((cutroomref07_Size.f a0 a1).bind fun t213 => (if t213 = true then ((cutroomlaw07_awake.f k).bind fun t215 => (if t215 = true then (if t211 = 0 then ((cutroomref07_Flat.f k a0 a1 a2 a3 a4).bind fun bt216 => ((cutroomref07_Equal.f t200 t201 t202 t205 t208 bt216.1 bt216.2.1 bt216.2.2.1 bt216.2.2.2.1 bt216.2.2.2.2).bind fun t227 => (some t227))) else (some false)) else (some false))) else ((cutroomlaw07_awake.f k).bind fun t214 => (if t214 = true then (some (t211 == 1)) else (some false))))) = some r := H
  have A6 := Aside0.mk A60
  clear A60
  replace H := Option.bind_eq_some_iff.mp H
  obtain ⟨t213, A70, H⟩ := H
  replace H : (if t213 = true then ((cutroomlaw07_awake.f k).bind fun t215 => (if t215 = true then (if t211 = 0 then ((cutroomref07_Flat.f k a0 a1 a2 a3 a4).bind fun bt216 => ((cutroomref07_Equal.f t200 t201 t202 t205 t208 bt216.1 bt216.2.1 bt216.2.2.1 bt216.2.2.2.1 bt216.2.2.2.2).bind fun t227 => (some t227))) else (some false)) else (some false))) else ((cutroomlaw07_awake.f k).bind fun t214 => (if t214 = true then (some (t211 == 1)) else (some false)))) = some r := H
  have A7 := Aside0.mk A70
  clear A70
  by_cases c8 : t213 = true
  · subst c8
    have H1 : ((cutroomlaw07_awake.f k).bind fun t215 => (if t215 = true then (if t211 = 0 then ((cutroomref07_Flat.f k a0 a1 a2 a3 a4).bind fun bt216 => ((cutroomref07_Equal.f t200 t201 t202 t205 t208 bt216.1 bt216.2.1 bt216.2.2.1 bt216.2.2.2.1 bt216.2.2.2.2).bind fun t227 => (some t227))) else (some false)) else (some false))) = some r := by rw [if_pos rfl] at H; exact H
    clear H
    have H := H1
    clear H1
    replace H := Option.bind_eq_some_iff.mp H
    obtain ⟨t215, A90, H⟩ := H
    replace H : (if t215 = true then (if t211 = 0 then ((cutroomref07_Flat.f k a0 a1 a2 a3 a4).bind fun bt216 => ((cutroomref07_Equal.f t200 t201 t202 t205 t208 bt216.1 bt216.2.1 bt216.2.2.1 bt216.2.2.2.1 bt216.2.2.2.2).bind fun t227 => (some t227))) else (some false)) else (some false)) = some r := H
    have A9 := Aside0.mk A90
    clear A90
    by_cases c10 : t215 = true
    · subst c10
      have H1 : (if t211 = 0 then ((cutroomref07_Flat.f k a0 a1 a2 a3 a4).bind fun bt216 => ((cutroomref07_Equal.f t200 t201 t202 t205 t208 bt216.1 bt216.2.1 bt216.2.2.1 bt216.2.2.2.1 bt216.2.2.2.2).bind fun t227 => (some t227))) else (some false)) = some r := by rw [if_pos rfl] at H; exact H
      clear H
      have H := H1
      clear H1
      by_cases c11 : t211 = 0
      · rw [if_pos c11] at H
        have c11b0 : (t211 == 0) = true := beq_iff_eq.mpr c11
        have c11b1 : (t211 != 0) = false := bne_eq_false_iff_eq.mpr c11
        clear c11
        replace H := Option.bind_eq_some_iff.mp H
        obtain ⟨⟨t216, t217, t218, t221, t224⟩, A120, H⟩ := H
        replace H : ((cutroomref07_Equal.f t200 t201 t202 t205 t208 t216 t217 t218 t221 t224).bind fun t227 => (some t227)) = some r := H
        have A12 := Aside0.mk A120
        clear A120
        replace H := Option.bind_eq_some_iff.mp H
        obtain ⟨t227, A130, H⟩ := H
        replace H : (some t227) = some r := H
        have A13 := Aside0.mk A130
        clear A130
        obtain rfl := Option.some.inj H
        go_enter Try.func4, Try.ntmps4
        try go_wp2_with (first | ((with_reducible refine gate_callee (f := 19) rfl ?_); refine goesL_ (some 19) rfl rfl Try.func19 (by kernel_rfl) rfl #[.int .i64 a0, .int .i64 a1, .int .u8 a2, .int .u8 a3, .int .u8 a4] rfl (by (try simp only [List.map_toArray, List.map_cons, List.map_nil]); first | done | rfl | (simp only [List.length_drop, List.length_take]; rfl)) ?_; (with_reducible refine (plane_Flat.calls k a0 a1 a2 a3 a4 t200 t201 t202 t205 t208 t211 _ A6.out).mono ?_); rintro e w14 ⟨v203, v206, v209, rfl, ho0, ho1, ho2, hb⟩; refine ⟨_, rfl, ?_⟩; have n0_ := Aside0.mk (Kd.R_lower ho0 (below_size (by repeat (first | (with_reducible first | exact HB.out | apply below_alloc | apply pw_below_drewN | apply below_drew1) | exact HB.out)))); have n1_ := Aside0.mk (Kd.R_lower ho1 (below_size (by repeat (first | (with_reducible first | exact HB.out | apply below_alloc | apply pw_below_drewN | apply below_drew1) | exact HB.out)))); have n2_ := Aside0.mk (Kd.R_lower ho2 (below_size (by repeat (first | (with_reducible first | exact HB.out | apply below_alloc | apply pw_below_drewN | apply below_drew1) | exact HB.out)))); have n3_ := Aside0.mk (below_step (by repeat (first | (with_reducible first | exact HB.out | apply below_alloc | apply pw_below_drewN | apply below_drew1) | exact HB.out)) hb); clear HB; have HO204 := n0_; have HO207 := n1_; have HO210 := n2_; have HB := n3_; clear n0_ n1_ n2_ n3_; (try clear hb); (try clear hb2); (try clear hk); (try clear hi); (try clear ho0); (try clear ho1); (try clear ho2)) | ((with_reducible refine gate_dst (N := 11) rfl ?_); refine box_event ?hg (N := 11) ?hd (cs := #[.int .i64 0, .int .i64 0, .slice none 0 0, .slice none 0 0, .slice none 0 0]) (t := 24) ?hr ?_; (case hd => rfl); (case hg => rfl); (case hr => first | (go_simp; done) | (go_simp; rfl)); intro gb212 hg w15 hbox hb; have n0_ := Aside0.mk (Kd.R_below (by (with_reducible repeat (first | apply Kd.R_alloc | apply Kd.R_drewN | apply Kd.R_drew)); exact HO204.out) hb); have n1_ := Aside0.mk (Kd.R_below (by (with_reducible repeat (first | apply Kd.R_alloc | apply Kd.R_drewN | apply Kd.R_drew)); exact HO207.out) hb); have n2_ := Aside0.mk (Kd.R_below (by (with_reducible repeat (first | apply Kd.R_alloc | apply Kd.R_drewN | apply Kd.R_drew)); exact HO210.out) hb); have n3_ := Aside0.mk (below_step (by repeat (first | (with_reducible first | exact HB.out | apply below_alloc | apply pw_below_drewN | apply below_drew1) | exact HB.out)) hb); have n4_ := Aside0.mk (hbox); have n5_ := Aside0.mk ((by rw [hg]; exact (below_size (by repeat (first | (with_reducible first | exact HB.out | apply below_alloc | apply pw_below_drewN | apply below_drew1) | exact HB.out))) : w.heap.size ≤ gb212)); have n6_ := Aside0.mk ((by rw [hg]; exact (below_size (by repeat (first | (with_reducible first | exact HB.out | apply below_alloc | apply pw_below_drewN | apply below_drew1) | exact HB.out))) : w.heap.size ≤ gb212)); clear HO204; clear HO207; clear HO210; clear HB; have HO204 := n0_; have HO207 := n1_; have HO210 := n2_; have HB := n3_; have BK212 := n4_; have GW212 := n5_; have GE212 := n6_; clear n0_ n1_ n2_ n3_ n4_ n5_ n6_; clear hb hbox hg; have hcz16_0 : w15.cell? ⟨gb212, 0, none⟩ = some (.int .i64 0) := (blk_cell BK212.out 0).trans rfl; have hcz16_1 : w15.cell? ⟨gb212, 1, none⟩ = some (.int .i64 0) := (blk_cell BK212.out 1).trans rfl; have hcz16_2 : w15.cell? ⟨gb212, 2, none⟩ = some (.slice none 0 0) := (blk_cell BK212.out 2).trans rfl; have hcz16_3 : w15.cell? ⟨gb212, 3, none⟩ = some (.slice none 0 0) := (blk_cell BK212.out 3).trans rfl; have hcz16_4 : w15.cell? ⟨gb212, 4, none⟩ = some (.slice none 0 0) := (blk_cell BK212.out 4).trans rfl; have hfz16_0 := blk_frozen BK212.out 0; have hfz16_1 := blk_frozen BK212.out 1; have hfz16_2 := blk_frozen BK212.out 2; have hfz16_3 := blk_frozen BK212.out 3; have hfz16_4 := blk_frozen BK212.out 4; obtain ⟨Ao17, co17, eo17⟩ := Kd.R_slice HO204.out; subst eo17; obtain ⟨Ao18, co18, eo18⟩ := Kd.R_slice HO207.out; subst eo18; obtain ⟨Ao19, co19, eo19⟩ := Kd.R_slice HO210.out; subst eo19) | ((with_reducible refine gate_callee (f := 20) rfl ?_); refine goesL_ (some 24) rfl rfl Try.func20 (by kernel_rfl) rfl #[.int .i64 a0, .int .i64 a1] rfl (by (try simp only [List.map_toArray, List.map_cons, List.map_nil]); first | done | rfl | (simp only [List.length_drop, List.length_take]; rfl)) ?_; (with_reducible refine (cutroomref07_Size.calls a0 a1 true _ A7.out).mono ?_); rintro e w' ⟨rfl, ⟨nd, rfl⟩⟩; refine ⟨_, rfl, ?_⟩))
        have n0_ : Aside0 (Kd.R (Kd.int .u8) 5 (((((w15.setCell ⟨gb212, 0, none⟩ (.int .i64 t200)).setCell ⟨gb212, 1, none⟩ (.int .i64 t201)).setCell ⟨gb212, 2, none⟩ (.slice Ao17 t202.length co17)).setCell ⟨gb212, 3, none⟩ (.slice Ao18 t205.length co18)).setCell ⟨gb212, 4, none⟩ (.slice Ao19 t208.length co19)) w.heap.size (fun k_ => some k_ ≠ (.slice Ao18 t205.length co18 : Value).ownBlock ∧ some k_ ≠ (.slice Ao19 t208.length co19 : Value).ownBlock) (.slice Ao17 t202.length co17) t202) := ⟨by (with_reducible repeat (first | apply Kd.R_alloc | apply Kd.R_drewN | apply Kd.R_drew)); exact Kd.R_mono (Kd.R_far (p := ⟨gb212, 4, none⟩) (Kd.R_far (p := ⟨gb212, 3, none⟩) (Kd.R_far (p := ⟨gb212, 2, none⟩) (Kd.R_far (p := ⟨gb212, 1, none⟩) (Kd.R_far (p := ⟨gb212, 0, none⟩) (Kd.R_types HO204.out BK212.out (by decide)) (fun _ hk => hk.2) (.int .i64 t200)) (fun _ hk => hk.2) (.int .i64 t201)) (fun _ hk => hk.2) (.slice Ao17 t202.length co17)) (fun _ hk => hk.2) (.slice Ao18 t205.length co18)) (fun _ hk => hk.2) (.slice Ao19 t208.length co19)) (fun _ hk => ⟨hk.1.1, hk.1.2⟩)⟩
        have n1_ : Aside0 (Kd.R (Kd.int .u8) 5 (((((w15.setCell ⟨gb212, 0, none⟩ (.int .i64 t200)).setCell ⟨gb212, 1, none⟩ (.int .i64 t201)).setCell ⟨gb212, 2, none⟩ (.slice Ao17 t202.length co17)).setCell ⟨gb212, 3, none⟩ (.slice Ao18 t205.length co18)).setCell ⟨gb212, 4, none⟩ (.slice Ao19 t208.length co19)) w.heap.size (fun k_ => some k_ ≠ (.slice Ao17 t202.length co17 : Value).ownBlock ∧ some k_ ≠ (.slice Ao19 t208.length co19 : Value).ownBlock) (.slice Ao18 t205.length co18) t205) := ⟨by (with_reducible repeat (first | apply Kd.R_alloc | apply Kd.R_drewN | apply Kd.R_drew)); exact Kd.R_mono (Kd.R_far (p := ⟨gb212, 4, none⟩) (Kd.R_far (p := ⟨gb212, 3, none⟩) (Kd.R_far (p := ⟨gb212, 2, none⟩) (Kd.R_far (p := ⟨gb212, 1, none⟩) (Kd.R_far (p := ⟨gb212, 0, none⟩) (Kd.R_types HO207.out BK212.out (by decide)) (fun _ hk => hk.2) (.int .i64 t200)) (fun _ hk => hk.2) (.int .i64 t201)) (fun _ hk => hk.2) (.slice Ao17 t202.length co17)) (fun _ hk => hk.2) (.slice Ao18 t205.length co18)) (fun _ hk => hk.2) (.slice Ao19 t208.length co19)) (fun _ hk => ⟨hk.1.1, hk.1.2⟩)⟩
        have n2_ : Aside0 (Kd.R (Kd.int .u8) 5 (((((w15.setCell ⟨gb212, 0, none⟩ (.int .i64 t200)).setCell ⟨gb212, 1, none⟩ (.int .i64 t201)).setCell ⟨gb212, 2, none⟩ (.slice Ao17 t202.length co17)).setCell ⟨gb212, 3, none⟩ (.slice Ao18 t205.length co18)).setCell ⟨gb212, 4, none⟩ (.slice Ao19 t208.length co19)) w.heap.size (fun k_ => some k_ ≠ (.slice Ao17 t202.length co17 : Value).ownBlock ∧ some k_ ≠ (.slice Ao18 t205.length co18 : Value).ownBlock) (.slice Ao19 t208.length co19) t208) := ⟨by (with_reducible repeat (first | apply Kd.R_alloc | apply Kd.R_drewN | apply Kd.R_drew)); exact Kd.R_mono (Kd.R_far (p := ⟨gb212, 4, none⟩) (Kd.R_far (p := ⟨gb212, 3, none⟩) (Kd.R_far (p := ⟨gb212, 2, none⟩) (Kd.R_far (p := ⟨gb212, 1, none⟩) (Kd.R_far (p := ⟨gb212, 0, none⟩) (Kd.R_types HO210.out BK212.out (by decide)) (fun _ hk => hk.2) (.int .i64 t200)) (fun _ hk => hk.2) (.int .i64 t201)) (fun _ hk => hk.2) (.slice Ao17 t202.length co17)) (fun _ hk => hk.2) (.slice Ao18 t205.length co18)) (fun _ hk => hk.2) (.slice Ao19 t208.length co19)) (fun _ hk => ⟨hk.1.1, hk.1.2⟩)⟩
        have n3_ : Aside0 ((((((w15.setCell ⟨gb212, 0, none⟩ (.int .i64 t200)).setCell ⟨gb212, 1, none⟩ (.int .i64 t201)).setCell ⟨gb212, 2, none⟩ (.slice Ao17 t202.length co17)).setCell ⟨gb212, 3, none⟩ (.slice Ao18 t205.length co18)).setCell ⟨gb212, 4, none⟩ (.slice Ao19 t208.length co19)).heap[gb212]? = some (.cells #[.int .i64 t200, .int .i64 t201, .slice Ao17 t202.length co17, .slice Ao18 t205.length co18, .slice Ao19 t208.length co19] 24 (0, 0))) := ⟨by (with_reducible repeat (first | refine blk_drewN ?_ _ | refine blk_drew ?_ | refine blk_alloc ?_ _)); refine blk_put (cs := #[.int .i64 t200, .int .i64 t201, .slice Ao17 t202.length co17, .slice Ao18 t205.length co18, .slice none 0 0]) ?_ 4 _ rfl; (with_reducible repeat (first | refine blk_drewN ?_ _ | refine blk_drew ?_ | refine blk_alloc ?_ _)); refine blk_put (cs := #[.int .i64 t200, .int .i64 t201, .slice Ao17 t202.length co17, .slice none 0 0, .slice none 0 0]) ?_ 3 _ rfl; (with_reducible repeat (first | refine blk_drewN ?_ _ | refine blk_drew ?_ | refine blk_alloc ?_ _)); refine blk_put (cs := #[.int .i64 t200, .int .i64 t201, .slice none 0 0, .slice none 0 0, .slice none 0 0]) ?_ 2 _ rfl; (with_reducible repeat (first | refine blk_drewN ?_ _ | refine blk_drew ?_ | refine blk_alloc ?_ _)); refine blk_put (cs := #[.int .i64 t200, .int .i64 0, .slice none 0 0, .slice none 0 0, .slice none 0 0]) ?_ 1 _ rfl; (with_reducible repeat (first | refine blk_drewN ?_ _ | refine blk_drew ?_ | refine blk_alloc ?_ _)); refine blk_put (cs := #[.int .i64 0, .int .i64 0, .slice none 0 0, .slice none 0 0, .slice none 0 0]) ?_ 0 _ rfl; (with_reducible repeat (first | refine blk_drewN ?_ _ | refine blk_drew ?_ | refine blk_alloc ?_ _)); exact BK212.out⟩
        have n4_ : Aside0 (Below w.heap.size w (((((w15.setCell ⟨gb212, 0, none⟩ (.int .i64 t200)).setCell ⟨gb212, 1, none⟩ (.int .i64 t201)).setCell ⟨gb212, 2, none⟩ (.slice Ao17 t202.length co17)).setCell ⟨gb212, 3, none⟩ (.slice Ao18 t205.length co18)).setCell ⟨gb212, 4, none⟩ (.slice Ao19 t208.length co19))) := ⟨by repeat (first | (with_reducible first | exact HB.out | apply below_alloc | apply pw_below_drewN | apply below_drew1 | refine below_set ?_ GE212.out) | exact HB.out)⟩
        (try clear HO204)
        (try clear HO207)
        (try clear HO210)
        (try clear BK212)
        (try clear HB)
        generalize (((((w15.setCell ⟨gb212, 0, none⟩ (.int .i64 t200)).setCell ⟨gb212, 1, none⟩ (.int .i64 t201)).setCell ⟨gb212, 2, none⟩ (.slice Ao17 t202.length co17)).setCell ⟨gb212, 3, none⟩ (.slice Ao18 t205.length co18)).setCell ⟨gb212, 4, none⟩ (.slice Ao19 t208.length co19)) = w20 at n0_ n1_ n2_ n3_ n4_ ⊢
        have HO204 := n0_
        have HO207 := n1_
        have HO210 := n2_
        have BK212 := n3_
        have HB := n4_
        clear n0_ n1_ n2_ n3_ n4_
        (try (rw [drewN_self w20]; generalize hq_ : World.drewN w20 _ = w20; have n0_ : Aside0 (Kd.R (Kd.int .u8) 5 w20 w.heap.size (fun k_ => some k_ ≠ (.slice Ao18 t205.length co18 : Value).ownBlock ∧ some k_ ≠ (.slice Ao19 t208.length co19 : Value).ownBlock) (.slice Ao17 t202.length co17) t202) := ⟨by rw [← hq_]; exact (by (with_reducible repeat (first | apply Kd.R_alloc | apply Kd.R_drewN | apply Kd.R_drew)); exact HO204.out)⟩; have n1_ : Aside0 (Kd.R (Kd.int .u8) 5 w20 w.heap.size (fun k_ => some k_ ≠ (.slice Ao17 t202.length co17 : Value).ownBlock ∧ some k_ ≠ (.slice Ao19 t208.length co19 : Value).ownBlock) (.slice Ao18 t205.length co18) t205) := ⟨by rw [← hq_]; exact (by (with_reducible repeat (first | apply Kd.R_alloc | apply Kd.R_drewN | apply Kd.R_drew)); exact HO207.out)⟩; have n2_ : Aside0 (Kd.R (Kd.int .u8) 5 w20 w.heap.size (fun k_ => some k_ ≠ (.slice Ao17 t202.length co17 : Value).ownBlock ∧ some k_ ≠ (.slice Ao18 t205.length co18 : Value).ownBlock) (.slice Ao19 t208.length co19) t208) := ⟨by rw [← hq_]; exact (by (with_reducible repeat (first | apply Kd.R_alloc | apply Kd.R_drewN | apply Kd.R_drew)); exact HO210.out)⟩; have n3_ : Aside0 (w20.heap[gb212]? = some (.cells #[.int .i64 t200, .int .i64 t201, .slice Ao17 t202.length co17, .slice Ao18 t205.length co18, .slice Ao19 t208.length co19] 24 (0, 0))) := ⟨by rw [← hq_]; exact (by (with_reducible repeat (first | refine blk_drewN ?_ _ | refine blk_drew ?_ | refine blk_alloc ?_ _)); exact BK212.out)⟩; have n4_ : Aside0 (Below w.heap.size w w20) := ⟨by rw [← hq_]; exact (by repeat (first | (with_reducible first | exact HB.out | apply below_alloc | apply pw_below_drewN | apply below_drew1 | refine below_set ?_ GE212.out) | exact HB.out))⟩; clear HO204 HO207 HO210 BK212 HB hq_; have HO204 := n0_; have HO207 := n1_; have HO210 := n2_; have BK212 := n3_; have HB := n4_; clear n0_ n1_ n2_ n3_ n4_))
        have n0_ := Aside0.mk (Kd.R_drew HO204.out)
        have n1_ := Aside0.mk (Kd.R_drew HO207.out)
        have n2_ := Aside0.mk (Kd.R_drew HO210.out)
        have n3_ := Aside0.mk (blk_drew BK212.out)
        have n4_ := Aside0.mk (below_drew1 HB.out)
        clear HO204
        clear HO207
        clear HO210
        clear BK212
        clear HB
        have HO204 := n0_
        have HO207 := n1_
        have HO210 := n2_
        have BK212 := n3_
        have HB := n4_
        clear n0_ n1_ n2_ n3_ n4_
        refine start_ (n := 16) (S := fun w' => w'.cell? ⟨gb212, 0, none⟩ = some (.int .i64 t200) ∧ w'.cell? ⟨gb212, 1, none⟩ = some (.int .i64 t201) ∧ w'.cell? ⟨gb212, 2, none⟩ = some (.slice Ao17 t202.length co17) ∧ w'.cell? ⟨gb212, 3, none⟩ = some (.slice Ao18 t205.length co18) ∧ w'.cell? ⟨gb212, 4, none⟩ = some (.slice Ao19 t208.length co19)) (ds := []) #[false, false, false, false, false, false, false, false, false, false, false, false, false, false, false, false] (by kernel_rfl) rfl rfl ⟨(blk_cell BK212.out 0).trans rfl, (blk_cell BK212.out 1).trans rfl, (blk_cell BK212.out 2).trans rfl, (blk_cell BK212.out 3).trans rfl, (blk_cell BK212.out 4).trans rfl⟩ (fun hHeld => ?_); refine with_tabW cutroomlaw07_PlaneFlat.tab4 cutroomlaw07_PlaneFlat.bits4 (fun HT_ HW_ => ?_)
        generalize w20.drew = w21 at HO204 HO207 HO210 BK212 HB hHeld ⊢
        refine one_ (i := 0) (N := some 31) #[true, false, false, false, false, false, false, false, false, false, false, false, false, false, false, false] rfl rfl (one_of HT_.out (by kernel_rfl)) (by decide) (fun K hK => ?_)
        refine goes_ Try.func14 (by kernel_rfl) rfl #[] (by rfl) rfl rfl (by (try simp only [List.map_toArray, List.map_cons, List.map_nil]); first | done | rfl | (simp only [List.length_drop, List.length_take]; rfl)) ?_
        with_reducible refine (cutroomlaw07_awake.calls k  true _ A9.out).mono ?_
        rintro e w22 ⟨rfl, hb⟩
        refine ⟨_, rfl, ?_⟩
        have n0_ := Aside0.mk (Kd.R_below (by (with_reducible repeat (first | apply Kd.R_alloc | apply Kd.R_drewN | apply Kd.R_drew)); exact HO204.out) hb)
        have n1_ := Aside0.mk (Kd.R_below (by (with_reducible repeat (first | apply Kd.R_alloc | apply Kd.R_drewN | apply Kd.R_drew)); exact HO207.out) hb)
        have n2_ := Aside0.mk (Kd.R_below (by (with_reducible repeat (first | apply Kd.R_alloc | apply Kd.R_drewN | apply Kd.R_drew)); exact HO210.out) hb)
        have n3_ := Aside0.mk (blk_below (g := gb212) (o := .cells #[.int .i64 t200, .int .i64 t201, .slice Ao17 t202.length co17, .slice Ao18 t205.length co18, .slice Ao19 t208.length co19] 24 (0, 0)) (by (with_reducible repeat (first | refine blk_drewN ?_ _ | refine blk_drew ?_ | refine blk_alloc ?_ _)); exact BK212.out) hb)
        have n4_ := Aside0.mk (below_step (by repeat (first | (with_reducible first | exact HB.out | apply below_alloc | apply pw_below_drewN | apply below_drew1 | refine below_set ?_ GE212.out) | exact HB.out)) hb)
        clear HO204
        clear HO207
        clear HO210
        clear BK212
        clear HB
        have HO204 := n0_
        have HO207 := n1_
        have HO210 := n2_
        have BK212 := n3_
        have HB := n4_
        clear n0_ n1_ n2_ n3_ n4_
        (try clear hb)
        (try clear hb2)
        (try clear hk)
        (try clear hi)
        refine hK.out _ _ ⟨(blk_cell BK212.out 0).trans rfl, (blk_cell BK212.out 1).trans rfl, (blk_cell BK212.out 2).trans rfl, (blk_cell BK212.out 3).trans rfl, (blk_cell BK212.out 4).trans rfl⟩ (fun hHeld => ?_)
        clear hK K
        refine norm_ (a' := ?_) ?_ ?_
        rotate_left
        · show Act.put _ (some 31) _ = _
          simp only [Act.put, List.setIfInBounds_toArray, List.set_cons_zero, List.set_cons_succ, i64_w, i32_w]
          rfl
        refine pure_ (i := 1) (N := some 32) (v := ?_) (a' := ?_) #[true, true, false, false, false, false, false, false, false, false, false, false, false, false, false, false] rfl rfl (any_of HT_.out (by kernel_rfl)) (fun _ _ _ h => h) (Or.inl ⟨by rfl, ?_⟩) ?_ ?_
        rotate_left
        · intro w'
          go_simp
          with_reducible rfl
        rotate_left
        · simp only [Act.put, List.setIfInBounds_toArray, List.set_cons_zero, List.set_cons_succ, i64_w, i32_w]
          rfl
        refine pure_ (i := 2) (N := some 33) (v := ?_) (a' := ?_) #[true, true, true, false, false, false, false, false, false, false, false, false, false, false, false, false] rfl rfl (any_of HT_.out (by kernel_rfl)) (fun _ _ _ h => h) (Or.inl ⟨by rfl, ?_⟩) ?_ ?_
        rotate_left
        · intro w'
          go_simp
          with_reducible rfl
        rotate_left
        · simp only [Act.put, List.setIfInBounds_toArray, List.set_cons_zero, List.set_cons_succ, i64_w, i32_w]
          rfl
        refine pure_ (i := 3) (N := some 34) (v := ?_) (a' := ?_) #[true, true, true, true, false, false, false, false, false, false, false, false, false, false, false, false] rfl rfl (any_of HT_.out (by kernel_rfl)) (fun _ _ _ h => h) (Or.inl ⟨by rfl, ?_⟩) ?_ ?_
        rotate_left
        · intro w'
          go_simp
          with_reducible rfl
        rotate_left
        · simp only [Act.put, List.setIfInBounds_toArray, List.set_cons_zero, List.set_cons_succ, i64_w, i32_w]
          rfl
        refine pure_ (i := 4) (N := some 35) (v := ?_) (a' := ?_) #[true, true, true, true, true, false, false, false, false, false, false, false, false, false, false, false] rfl rfl (any_of HT_.out (by kernel_rfl)) (fun _ _ _ h => h) (Or.inl ⟨by rfl, ?_⟩) ?_ ?_
        rotate_left
        · intro w'
          go_simp
          with_reducible rfl
        rotate_left
        · simp only [Act.put, List.setIfInBounds_toArray, List.set_cons_zero, List.set_cons_succ, i64_w, i32_w]
          rfl
        refine pure_ (i := 5) (N := some 36) (v := ?_) (a' := ?_) #[true, true, true, true, true, true, false, false, false, false, false, false, false, false, false, false] rfl rfl (any_of HT_.out (by kernel_rfl)) (fun _ _ _ h => h) (Or.inl ⟨by rfl, ?_⟩) ?_ ?_
        rotate_left
        · intro w'
          go_simp
          with_reducible rfl
        rotate_left
        · simp only [Act.put, List.setIfInBounds_toArray, List.set_cons_zero, List.set_cons_succ, i64_w, i32_w]
          rfl
        refine pure_ (i := 7) (N := some 38) (v := ?_) (a' := ?_) #[true, true, true, true, true, true, false, true, false, false, false, false, false, false, false, false] rfl rfl (any_of HT_.out (by kernel_rfl)) (fun _ _ _ h => h) (Or.inl ⟨by rfl, ?_⟩) ?_ ?_
        rotate_left
        · intro w'
          go_simp
          with_reducible rfl
        rotate_left
        · simp only [Act.put, List.setIfInBounds_toArray, List.set_cons_zero, List.set_cons_succ, i64_w, i32_w]
          rfl
        refine pure_ (i := 8) (N := some 39) (v := ?_) (a' := ?_) #[true, true, true, true, true, true, false, true, true, false, false, false, false, false, false, false] rfl rfl (any_of HT_.out (by kernel_rfl)) (fun _ _ _ h => h) (Or.inl ⟨by rfl, ?_⟩) ?_ ?_
        rotate_left
        · intro w'
          go_simp
          with_reducible rfl
        rotate_left
        · simp only [Act.put, List.setIfInBounds_toArray, List.set_cons_zero, List.set_cons_succ, i64_w, i32_w]
          rfl
        refine pure_ (i := 9) (N := some 40) (v := ?_) (a' := ?_) #[true, true, true, true, true, true, false, true, true, true, false, false, false, false, false, false] rfl rfl (any_of HT_.out (by kernel_rfl)) (fun _ _ _ h => h) (Or.inl ⟨by rfl, ?_⟩) ?_ ?_
        rotate_left
        · intro w'
          go_simp
          with_reducible rfl
        rotate_left
        · simp only [Act.put, List.setIfInBounds_toArray, List.set_cons_zero, List.set_cons_succ, i64_w, i32_w]
          rfl
        refine pure_ (i := 10) (N := some 41) (v := ?_) (a' := ?_) #[true, true, true, true, true, true, false, true, true, true, true, false, false, false, false, false] rfl rfl (any_of HT_.out (by kernel_rfl)) (fun _ _ _ h => h) (Or.inl ⟨by rfl, ?_⟩) ?_ ?_
        rotate_left
        · intro w'
          go_simp
          with_reducible rfl
        rotate_left
        · simp only [Act.put, List.setIfInBounds_toArray, List.set_cons_zero, List.set_cons_succ, i64_w, i32_w]
          rfl
        refine pure_ (i := 11) (N := some 42) (v := ?_) (a' := ?_) #[true, true, true, true, true, true, false, true, true, true, true, true, false, false, false, false] rfl rfl (any_of HT_.out (by kernel_rfl)) (fun _ _ _ h => h) (Or.inl ⟨by rfl, ?_⟩) ?_ ?_
        rotate_left
        · intro w'
          go_simp
          with_reducible rfl
        rotate_left
        · simp only [Act.put, List.setIfInBounds_toArray, List.set_cons_zero, List.set_cons_succ, i64_w, i32_w]
          rfl
        refine take_ (i := 6) (N := some 37) (v := ?_) (a' := ?_) #[true, true, true, true, true, true, true, true, true, true, true, true, false, false, false, false] rfl rfl (take_ofW HT_.out HW_.out (by kernel_rfl)) (fun _ _ _ h => h) (Or.inl ⟨by rfl, ?_⟩) hHeld ?_ ?_
        rotate_left
        · rintro w' ⟨s0, s1, s2, s3, s4⟩
          go_simp
          with_reducible rfl
        rotate_left
        · simp only [Act.put, List.setIfInBounds_toArray, List.set_cons_zero, List.set_cons_succ, i64_w, i32_w]
          rfl
        refine one_ (i := 12) (N := some 43) #[true, true, true, true, true, true, true, true, true, true, true, true, true, false, false, false] rfl rfl (one_of HT_.out (by kernel_rfl)) (by decide) (fun K hK => ?_)
        refine goes_ Try.func22 (by kernel_rfl) rfl #[.int .i64 a0, .int .i64 a1, .int .u8 a2, .int .u8 a3, .int .u8 a4] (by rfl) rfl rfl (by (try simp only [List.map_toArray, List.map_cons, List.map_nil]); first | done | rfl | (simp only [List.length_drop, List.length_take]; rfl)) ?_
        with_reducible refine (cutroomref07_Flat.calls k a0 a1 a2 a3 a4 t216 t217 t218 t221 t224 _ A12.out).mono ?_
        rintro e w23 ⟨v219, v222, v225, rfl, ho0, ho1, ho2, hb⟩
        refine ⟨_, rfl, ?_⟩
        have n0_ := Aside0.mk (Kd.R_mono (Kd.R_told (Kd.R_told (Kd.R_told (Kd.R_old (by (with_reducible repeat (first | apply Kd.R_alloc | apply Kd.R_drewN | apply Kd.R_drew)); exact HO204.out) hb) (Kd.R_base ho0)) (Kd.R_base ho1)) (Kd.R_base ho2)) (fun _ h_ => h_.1))
        have n1_ := Aside0.mk (Kd.R_mono (Kd.R_told (Kd.R_told (Kd.R_told (Kd.R_old (by (with_reducible repeat (first | apply Kd.R_alloc | apply Kd.R_drewN | apply Kd.R_drew)); exact HO207.out) hb) (Kd.R_base ho0)) (Kd.R_base ho1)) (Kd.R_base ho2)) (fun _ h_ => h_.1))
        have n2_ := Aside0.mk (Kd.R_mono (Kd.R_told (Kd.R_told (Kd.R_told (Kd.R_old (by (with_reducible repeat (first | apply Kd.R_alloc | apply Kd.R_drewN | apply Kd.R_drew)); exact HO210.out) hb) (Kd.R_base ho0)) (Kd.R_base ho1)) (Kd.R_base ho2)) (fun _ h_ => h_.1))
        have n3_ := Aside0.mk (Kd.R_lower (Kd.R_new' (Kd.R_new' (Kd.R_new' ho0 (Kd.R_lt (by (with_reducible repeat (first | apply Kd.R_alloc | apply Kd.R_drewN | apply Kd.R_drew)); exact HO204.out))) (Kd.R_lt (by (with_reducible repeat (first | apply Kd.R_alloc | apply Kd.R_drewN | apply Kd.R_drew)); exact HO207.out))) (Kd.R_lt (by (with_reducible repeat (first | apply Kd.R_alloc | apply Kd.R_drewN | apply Kd.R_drew)); exact HO210.out))) (below_size (by repeat (first | (with_reducible first | exact HB.out | apply below_alloc | apply pw_below_drewN | apply below_drew1 | refine below_set ?_ GE212.out) | exact HB.out))))
        have n4_ := Aside0.mk (Kd.R_lower (Kd.R_new' (Kd.R_new' (Kd.R_new' ho1 (Kd.R_lt (by (with_reducible repeat (first | apply Kd.R_alloc | apply Kd.R_drewN | apply Kd.R_drew)); exact HO204.out))) (Kd.R_lt (by (with_reducible repeat (first | apply Kd.R_alloc | apply Kd.R_drewN | apply Kd.R_drew)); exact HO207.out))) (Kd.R_lt (by (with_reducible repeat (first | apply Kd.R_alloc | apply Kd.R_drewN | apply Kd.R_drew)); exact HO210.out))) (below_size (by repeat (first | (with_reducible first | exact HB.out | apply below_alloc | apply pw_below_drewN | apply below_drew1 | refine below_set ?_ GE212.out) | exact HB.out))))
        have n5_ := Aside0.mk (Kd.R_lower (Kd.R_new' (Kd.R_new' (Kd.R_new' ho2 (Kd.R_lt (by (with_reducible repeat (first | apply Kd.R_alloc | apply Kd.R_drewN | apply Kd.R_drew)); exact HO204.out))) (Kd.R_lt (by (with_reducible repeat (first | apply Kd.R_alloc | apply Kd.R_drewN | apply Kd.R_drew)); exact HO207.out))) (Kd.R_lt (by (with_reducible repeat (first | apply Kd.R_alloc | apply Kd.R_drewN | apply Kd.R_drew)); exact HO210.out))) (below_size (by repeat (first | (with_reducible first | exact HB.out | apply below_alloc | apply pw_below_drewN | apply below_drew1 | refine below_set ?_ GE212.out) | exact HB.out))))
        have n6_ := Aside0.mk (blk_below (g := gb212) (o := .cells #[.int .i64 t200, .int .i64 t201, .slice Ao17 t202.length co17, .slice Ao18 t205.length co18, .slice Ao19 t208.length co19] 24 (0, 0)) (by (with_reducible repeat (first | refine blk_drewN ?_ _ | refine blk_drew ?_ | refine blk_alloc ?_ _)); exact BK212.out) hb)
        have n7_ := Aside0.mk (below_step (by repeat (first | (with_reducible first | exact HB.out | apply below_alloc | apply pw_below_drewN | apply below_drew1 | refine below_set ?_ GE212.out) | exact HB.out)) hb)
        clear HO204
        clear HO207
        clear HO210
        clear BK212
        clear HB
        have HO204 := n0_
        have HO207 := n1_
        have HO210 := n2_
        have HO220 := n3_
        have HO223 := n4_
        have HO226 := n5_
        have BK212 := n6_
        have HB := n7_
        clear n0_ n1_ n2_ n3_ n4_ n5_ n6_ n7_
        (try clear hb)
        (try clear hb2)
        (try clear hk)
        (try clear hi)
        (try clear ho0)
        (try clear ho1)
        (try clear ho2)
        obtain ⟨Ao24, co24, eo24⟩ := Kd.R_slice HO220.out
        (first | subst eo24 | (injection eo24 with f1_ f2_ f3_; have f4_ := f1_.symm; have f5_ := f3_.symm; clear f1_ f2_ f3_; subst f4_; subst f5_))
        obtain ⟨Ao25, co25, eo25⟩ := Kd.R_slice HO223.out
        (first | subst eo25 | (injection eo25 with f1_ f2_ f3_; have f4_ := f1_.symm; have f5_ := f3_.symm; clear f1_ f2_ f3_; subst f4_; subst f5_))
        obtain ⟨Ao26, co26, eo26⟩ := Kd.R_slice HO226.out
        (first | subst eo26 | (injection eo26 with f1_ f2_ f3_; have f4_ := f1_.symm; have f5_ := f3_.symm; clear f1_ f2_ f3_; subst f4_; subst f5_))
        refine hK.out _ _ ⟨(blk_cell BK212.out 0).trans rfl, (blk_cell BK212.out 1).trans rfl, (blk_cell BK212.out 2).trans rfl, (blk_cell BK212.out 3).trans rfl, (blk_cell BK212.out 4).trans rfl⟩ (fun hHeld => ?_)
        clear hK K
        refine norm_ (a' := ?_) ?_ ?_
        rotate_left
        · show Act.put _ (some 43) _ = _
          simp only [Act.put, List.setIfInBounds_toArray, List.set_cons_zero, List.set_cons_succ, i64_w, i32_w]
          rfl
        refine one_ (i := 13) (N := some 44) #[true, true, true, true, true, true, true, true, true, true, true, true, true, true, false, false] rfl rfl (one_of HT_.out (by kernel_rfl)) (by decide) (fun K hK => ?_)
        refine goes_ Try.func21 (by kernel_rfl) rfl #[.agg #[.int .i64 t200, .int .i64 t201, .slice Ao17 t202.length co17, .slice Ao18 t205.length co18, .slice Ao19 t208.length co19], .agg #[.int .i64 t216, .int .i64 t217, .slice Ao24 t218.length co24, .slice Ao25 t221.length co25, .slice Ao26 t224.length co26]] (by rfl) rfl rfl (by (try simp only [List.map_toArray, List.map_cons, List.map_nil]); first | done | rfl | (simp only [List.length_drop, List.length_take]; rfl)) ?_
        with_reducible refine (cutroomref07_Equal.calls t200 t201 _ _ t202 _ _ t205 _ _ t208 t216 t217 _ _ t218 _ _ t221 _ _ t224 t227 _ ?side1 ?side2 ?side3 ?side4 ?side5 ?side6 ?side7 ?side8 ?side9 ?side10 ?side11 ?side12 A13.out).mono ?_
        (case side1 => repeat (first | exact (Kd.R_reads' HO204.out).2.2 | (with_reducible refine Kd.C_alloc ?_ _) | (with_reducible refine Kd.C_drewN ?_ _) | (with_reducible refine Kd.C_drew ?_)))
        (case side2 => exact (Kd.R_reads' HO204.out).2.1)
        (case side3 => repeat (first | exact (Kd.R_reads' HO207.out).2.2 | (with_reducible refine Kd.C_alloc ?_ _) | (with_reducible refine Kd.C_drewN ?_ _) | (with_reducible refine Kd.C_drew ?_)))
        (case side4 => exact (Kd.R_reads' HO207.out).2.1)
        (case side5 => repeat (first | exact (Kd.R_reads' HO210.out).2.2 | (with_reducible refine Kd.C_alloc ?_ _) | (with_reducible refine Kd.C_drewN ?_ _) | (with_reducible refine Kd.C_drew ?_)))
        (case side6 => exact (Kd.R_reads' HO210.out).2.1)
        (case side7 => repeat (first | exact (Kd.R_reads' HO220.out).2.2 | (with_reducible refine Kd.C_alloc ?_ _) | (with_reducible refine Kd.C_drewN ?_ _) | (with_reducible refine Kd.C_drew ?_)))
        (case side8 => exact (Kd.R_reads' HO220.out).2.1)
        (case side9 => repeat (first | exact (Kd.R_reads' HO223.out).2.2 | (with_reducible refine Kd.C_alloc ?_ _) | (with_reducible refine Kd.C_drewN ?_ _) | (with_reducible refine Kd.C_drew ?_)))
        (case side10 => exact (Kd.R_reads' HO223.out).2.1)
        (case side11 => repeat (first | exact (Kd.R_reads' HO226.out).2.2 | (with_reducible refine Kd.C_alloc ?_ _) | (with_reducible refine Kd.C_drewN ?_ _) | (with_reducible refine Kd.C_drew ?_)))
        (case side12 => exact (Kd.R_reads' HO226.out).2.1)
        rintro e w27 ⟨rfl, hb⟩
        refine ⟨_, rfl, ?_⟩
        have n0_ := Aside0.mk (Kd.R_below (by (with_reducible repeat (first | apply Kd.R_alloc | apply Kd.R_drewN | apply Kd.R_drew)); exact HO204.out) hb)
        have n1_ := Aside0.mk (Kd.R_below (by (with_reducible repeat (first | apply Kd.R_alloc | apply Kd.R_drewN | apply Kd.R_drew)); exact HO207.out) hb)
        have n2_ := Aside0.mk (Kd.R_below (by (with_reducible repeat (first | apply Kd.R_alloc | apply Kd.R_drewN | apply Kd.R_drew)); exact HO210.out) hb)
        have n3_ := Aside0.mk (Kd.R_below (by (with_reducible repeat (first | apply Kd.R_alloc | apply Kd.R_drewN | apply Kd.R_drew)); exact HO220.out) hb)
        have n4_ := Aside0.mk (Kd.R_below (by (with_reducible repeat (first | apply Kd.R_alloc | apply Kd.R_drewN | apply Kd.R_drew)); exact HO223.out) hb)
        have n5_ := Aside0.mk (Kd.R_below (by (with_reducible repeat (first | apply Kd.R_alloc | apply Kd.R_drewN | apply Kd.R_drew)); exact HO226.out) hb)
        have n6_ := Aside0.mk (blk_below (g := gb212) (o := .cells #[.int .i64 t200, .int .i64 t201, .slice Ao17 t202.length co17, .slice Ao18 t205.length co18, .slice Ao19 t208.length co19] 24 (0, 0)) (by (with_reducible repeat (first | refine blk_drewN ?_ _ | refine blk_drew ?_ | refine blk_alloc ?_ _)); exact BK212.out) hb)
        have n7_ := Aside0.mk (below_step (by repeat (first | (with_reducible first | exact HB.out | apply below_alloc | apply pw_below_drewN | apply below_drew1 | refine below_set ?_ GE212.out) | exact HB.out)) hb)
        clear HO204
        clear HO207
        clear HO210
        clear HO220
        clear HO223
        clear HO226
        clear BK212
        clear HB
        have HO204 := n0_
        have HO207 := n1_
        have HO210 := n2_
        have HO220 := n3_
        have HO223 := n4_
        have HO226 := n5_
        have BK212 := n6_
        have HB := n7_
        clear n0_ n1_ n2_ n3_ n4_ n5_ n6_ n7_
        (try clear hb)
        (try clear hb2)
        (try clear hk)
        (try clear hi)
        refine hK.out _ _ ⟨(blk_cell BK212.out 0).trans rfl, (blk_cell BK212.out 1).trans rfl, (blk_cell BK212.out 2).trans rfl, (blk_cell BK212.out 3).trans rfl, (blk_cell BK212.out 4).trans rfl⟩ (fun hHeld => ?_)
        clear hK K
        refine norm_ (a' := ?_) ?_ ?_
        rotate_left
        · show Act.put _ (some 44) _ = _
          simp only [Act.put, List.setIfInBounds_toArray, List.set_cons_zero, List.set_cons_succ, i64_w, i32_w]
          rfl
        refine pure_ (i := 14) (N := some 45) (v := ?_) (a' := ?_) #[true, true, true, true, true, true, true, true, true, true, true, true, true, true, true, false] rfl rfl (any_of HT_.out (by kernel_rfl)) (fun _ _ _ h => h) (Or.inl ⟨by rfl, ?_⟩) ?_ ?_
        rotate_left
        · intro w'
          go_simp
          with_reducible rfl
        rotate_left
        · simp only [Act.put, List.setIfInBounds_toArray, List.set_cons_zero, List.set_cons_succ, i64_w, i32_w]
          rfl
        refine pure_ (i := 15) (N := some 10) (v := ?_) (a' := ?_) #[true, true, true, true, true, true, true, true, true, true, true, true, true, true, true, true] rfl rfl (any_of HT_.out (by kernel_rfl)) (fun _ _ _ h => h) (Or.inl ⟨by rfl, ?_⟩) ?_ ?_
        rotate_left
        · intro w'
          go_simp
          with_reducible rfl
        rotate_left
        · simp only [Act.put, List.setIfInBounds_toArray, List.set_cons_zero, List.set_cons_succ, i64_w, i32_w]
          rfl
        refine done_ (done_of HT_.out (by kernel_rfl)) ?_
        try go_wp2
        go_ret
        exact ⟨by first | rfl | (simp [errW_none, errW_some] <;> rfl) | (simp [*, errW_none, errW_some] <;> rfl), by repeat (first | (with_reducible first | exact HB.out | apply below_alloc | apply pw_below_drewN | apply below_drew1 | refine below_set ?_ GE212.out) | exact HB.out)⟩
      · rw [if_neg c11] at H
        have c11b0 : (t211 == 0) = false := beq_eq_false_iff_ne.mpr c11
        have c11b1 : (t211 != 0) = true := bne_iff_ne.mpr c11
        obtain rfl := Option.some.inj H
        go_enter Try.func4, Try.ntmps4
        try go_wp2_with (first | ((with_reducible refine gate_callee (f := 19) rfl ?_); refine goesL_ (some 19) rfl rfl Try.func19 (by kernel_rfl) rfl #[.int .i64 a0, .int .i64 a1, .int .u8 a2, .int .u8 a3, .int .u8 a4] rfl (by (try simp only [List.map_toArray, List.map_cons, List.map_nil]); first | done | rfl | (simp only [List.length_drop, List.length_take]; rfl)) ?_; (with_reducible refine (plane_Flat.calls k a0 a1 a2 a3 a4 t200 t201 t202 t205 t208 t211 _ A6.out).mono ?_); rintro e w28 ⟨v203, v206, v209, rfl, ho0, ho1, ho2, hb⟩; refine ⟨_, rfl, ?_⟩; have n0_ := Aside0.mk (Kd.R_lower ho0 (below_size (by repeat (first | (with_reducible first | exact HB.out | apply below_alloc | apply pw_below_drewN | apply below_drew1) | exact HB.out)))); have n1_ := Aside0.mk (Kd.R_lower ho1 (below_size (by repeat (first | (with_reducible first | exact HB.out | apply below_alloc | apply pw_below_drewN | apply below_drew1) | exact HB.out)))); have n2_ := Aside0.mk (Kd.R_lower ho2 (below_size (by repeat (first | (with_reducible first | exact HB.out | apply below_alloc | apply pw_below_drewN | apply below_drew1) | exact HB.out)))); have n3_ := Aside0.mk (below_step (by repeat (first | (with_reducible first | exact HB.out | apply below_alloc | apply pw_below_drewN | apply below_drew1) | exact HB.out)) hb); clear HB; have HO204 := n0_; have HO207 := n1_; have HO210 := n2_; have HB := n3_; clear n0_ n1_ n2_ n3_; (try clear hb); (try clear hb2); (try clear hk); (try clear hi); (try clear ho0); (try clear ho1); (try clear ho2)) | ((with_reducible refine gate_dst (N := 11) rfl ?_); refine box_event ?hg (N := 11) ?hd (cs := #[.int .i64 0, .int .i64 0, .slice none 0 0, .slice none 0 0, .slice none 0 0]) (t := 24) ?hr ?_; (case hd => rfl); (case hg => rfl); (case hr => first | (go_simp; done) | (go_simp; rfl)); intro gb212 hg w29 hbox hb; have n0_ := Aside0.mk (Kd.R_below (by (with_reducible repeat (first | apply Kd.R_alloc | apply Kd.R_drewN | apply Kd.R_drew)); exact HO204.out) hb); have n1_ := Aside0.mk (Kd.R_below (by (with_reducible repeat (first | apply Kd.R_alloc | apply Kd.R_drewN | apply Kd.R_drew)); exact HO207.out) hb); have n2_ := Aside0.mk (Kd.R_below (by (with_reducible repeat (first | apply Kd.R_alloc | apply Kd.R_drewN | apply Kd.R_drew)); exact HO210.out) hb); have n3_ := Aside0.mk (below_step (by repeat (first | (with_reducible first | exact HB.out | apply below_alloc | apply pw_below_drewN | apply below_drew1) | exact HB.out)) hb); have n4_ := Aside0.mk (hbox); have n5_ := Aside0.mk ((by rw [hg]; exact (below_size (by repeat (first | (with_reducible first | exact HB.out | apply below_alloc | apply pw_below_drewN | apply below_drew1) | exact HB.out))) : w.heap.size ≤ gb212)); have n6_ := Aside0.mk ((by rw [hg]; exact (below_size (by repeat (first | (with_reducible first | exact HB.out | apply below_alloc | apply pw_below_drewN | apply below_drew1) | exact HB.out))) : w.heap.size ≤ gb212)); clear HO204; clear HO207; clear HO210; clear HB; have HO204 := n0_; have HO207 := n1_; have HO210 := n2_; have HB := n3_; have BK212 := n4_; have GW212 := n5_; have GE212 := n6_; clear n0_ n1_ n2_ n3_ n4_ n5_ n6_; clear hb hbox hg; have hcz30_0 : w29.cell? ⟨gb212, 0, none⟩ = some (.int .i64 0) := (blk_cell BK212.out 0).trans rfl; have hcz30_1 : w29.cell? ⟨gb212, 1, none⟩ = some (.int .i64 0) := (blk_cell BK212.out 1).trans rfl; have hcz30_2 : w29.cell? ⟨gb212, 2, none⟩ = some (.slice none 0 0) := (blk_cell BK212.out 2).trans rfl; have hcz30_3 : w29.cell? ⟨gb212, 3, none⟩ = some (.slice none 0 0) := (blk_cell BK212.out 3).trans rfl; have hcz30_4 : w29.cell? ⟨gb212, 4, none⟩ = some (.slice none 0 0) := (blk_cell BK212.out 4).trans rfl; have hfz30_0 := blk_frozen BK212.out 0; have hfz30_1 := blk_frozen BK212.out 1; have hfz30_2 := blk_frozen BK212.out 2; have hfz30_3 := blk_frozen BK212.out 3; have hfz30_4 := blk_frozen BK212.out 4; obtain ⟨Ao31, co31, eo31⟩ := Kd.R_slice HO204.out; subst eo31; obtain ⟨Ao32, co32, eo32⟩ := Kd.R_slice HO207.out; subst eo32; obtain ⟨Ao33, co33, eo33⟩ := Kd.R_slice HO210.out; subst eo33) | ((with_reducible refine gate_callee (f := 20) rfl ?_); refine goesL_ (some 24) rfl rfl Try.func20 (by kernel_rfl) rfl #[.int .i64 a0, .int .i64 a1] rfl (by (try simp only [List.map_toArray, List.map_cons, List.map_nil]); first | done | rfl | (simp only [List.length_drop, List.length_take]; rfl)) ?_; (with_reducible refine (cutroomref07_Size.calls a0 a1 true _ A7.out).mono ?_); rintro e w' ⟨rfl, ⟨nd, rfl⟩⟩; refine ⟨_, rfl, ?_⟩))
        have n0_ : Aside0 (Kd.R (Kd.int .u8) 5 (((((w29.setCell ⟨gb212, 0, none⟩ (.int .i64 t200)).setCell ⟨gb212, 1, none⟩ (.int .i64 t201)).setCell ⟨gb212, 2, none⟩ (.slice Ao31 t202.length co31)).setCell ⟨gb212, 3, none⟩ (.slice Ao32 t205.length co32)).setCell ⟨gb212, 4, none⟩ (.slice Ao33 t208.length co33)) w.heap.size (fun k_ => some k_ ≠ (.slice Ao32 t205.length co32 : Value).ownBlock ∧ some k_ ≠ (.slice Ao33 t208.length co33 : Value).ownBlock) (.slice Ao31 t202.length co31) t202) := ⟨by (with_reducible repeat (first | apply Kd.R_alloc | apply Kd.R_drewN | apply Kd.R_drew)); exact Kd.R_mono (Kd.R_far (p := ⟨gb212, 4, none⟩) (Kd.R_far (p := ⟨gb212, 3, none⟩) (Kd.R_far (p := ⟨gb212, 2, none⟩) (Kd.R_far (p := ⟨gb212, 1, none⟩) (Kd.R_far (p := ⟨gb212, 0, none⟩) (Kd.R_types HO204.out BK212.out (by decide)) (fun _ hk => hk.2) (.int .i64 t200)) (fun _ hk => hk.2) (.int .i64 t201)) (fun _ hk => hk.2) (.slice Ao31 t202.length co31)) (fun _ hk => hk.2) (.slice Ao32 t205.length co32)) (fun _ hk => hk.2) (.slice Ao33 t208.length co33)) (fun _ hk => ⟨hk.1.1, hk.1.2⟩)⟩
        have n1_ : Aside0 (Kd.R (Kd.int .u8) 5 (((((w29.setCell ⟨gb212, 0, none⟩ (.int .i64 t200)).setCell ⟨gb212, 1, none⟩ (.int .i64 t201)).setCell ⟨gb212, 2, none⟩ (.slice Ao31 t202.length co31)).setCell ⟨gb212, 3, none⟩ (.slice Ao32 t205.length co32)).setCell ⟨gb212, 4, none⟩ (.slice Ao33 t208.length co33)) w.heap.size (fun k_ => some k_ ≠ (.slice Ao31 t202.length co31 : Value).ownBlock ∧ some k_ ≠ (.slice Ao33 t208.length co33 : Value).ownBlock) (.slice Ao32 t205.length co32) t205) := ⟨by (with_reducible repeat (first | apply Kd.R_alloc | apply Kd.R_drewN | apply Kd.R_drew)); exact Kd.R_mono (Kd.R_far (p := ⟨gb212, 4, none⟩) (Kd.R_far (p := ⟨gb212, 3, none⟩) (Kd.R_far (p := ⟨gb212, 2, none⟩) (Kd.R_far (p := ⟨gb212, 1, none⟩) (Kd.R_far (p := ⟨gb212, 0, none⟩) (Kd.R_types HO207.out BK212.out (by decide)) (fun _ hk => hk.2) (.int .i64 t200)) (fun _ hk => hk.2) (.int .i64 t201)) (fun _ hk => hk.2) (.slice Ao31 t202.length co31)) (fun _ hk => hk.2) (.slice Ao32 t205.length co32)) (fun _ hk => hk.2) (.slice Ao33 t208.length co33)) (fun _ hk => ⟨hk.1.1, hk.1.2⟩)⟩
        have n2_ : Aside0 (Kd.R (Kd.int .u8) 5 (((((w29.setCell ⟨gb212, 0, none⟩ (.int .i64 t200)).setCell ⟨gb212, 1, none⟩ (.int .i64 t201)).setCell ⟨gb212, 2, none⟩ (.slice Ao31 t202.length co31)).setCell ⟨gb212, 3, none⟩ (.slice Ao32 t205.length co32)).setCell ⟨gb212, 4, none⟩ (.slice Ao33 t208.length co33)) w.heap.size (fun k_ => some k_ ≠ (.slice Ao31 t202.length co31 : Value).ownBlock ∧ some k_ ≠ (.slice Ao32 t205.length co32 : Value).ownBlock) (.slice Ao33 t208.length co33) t208) := ⟨by (with_reducible repeat (first | apply Kd.R_alloc | apply Kd.R_drewN | apply Kd.R_drew)); exact Kd.R_mono (Kd.R_far (p := ⟨gb212, 4, none⟩) (Kd.R_far (p := ⟨gb212, 3, none⟩) (Kd.R_far (p := ⟨gb212, 2, none⟩) (Kd.R_far (p := ⟨gb212, 1, none⟩) (Kd.R_far (p := ⟨gb212, 0, none⟩) (Kd.R_types HO210.out BK212.out (by decide)) (fun _ hk => hk.2) (.int .i64 t200)) (fun _ hk => hk.2) (.int .i64 t201)) (fun _ hk => hk.2) (.slice Ao31 t202.length co31)) (fun _ hk => hk.2) (.slice Ao32 t205.length co32)) (fun _ hk => hk.2) (.slice Ao33 t208.length co33)) (fun _ hk => ⟨hk.1.1, hk.1.2⟩)⟩
        have n3_ : Aside0 ((((((w29.setCell ⟨gb212, 0, none⟩ (.int .i64 t200)).setCell ⟨gb212, 1, none⟩ (.int .i64 t201)).setCell ⟨gb212, 2, none⟩ (.slice Ao31 t202.length co31)).setCell ⟨gb212, 3, none⟩ (.slice Ao32 t205.length co32)).setCell ⟨gb212, 4, none⟩ (.slice Ao33 t208.length co33)).heap[gb212]? = some (.cells #[.int .i64 t200, .int .i64 t201, .slice Ao31 t202.length co31, .slice Ao32 t205.length co32, .slice Ao33 t208.length co33] 24 (0, 0))) := ⟨by (with_reducible repeat (first | refine blk_drewN ?_ _ | refine blk_drew ?_ | refine blk_alloc ?_ _)); refine blk_put (cs := #[.int .i64 t200, .int .i64 t201, .slice Ao31 t202.length co31, .slice Ao32 t205.length co32, .slice none 0 0]) ?_ 4 _ rfl; (with_reducible repeat (first | refine blk_drewN ?_ _ | refine blk_drew ?_ | refine blk_alloc ?_ _)); refine blk_put (cs := #[.int .i64 t200, .int .i64 t201, .slice Ao31 t202.length co31, .slice none 0 0, .slice none 0 0]) ?_ 3 _ rfl; (with_reducible repeat (first | refine blk_drewN ?_ _ | refine blk_drew ?_ | refine blk_alloc ?_ _)); refine blk_put (cs := #[.int .i64 t200, .int .i64 t201, .slice none 0 0, .slice none 0 0, .slice none 0 0]) ?_ 2 _ rfl; (with_reducible repeat (first | refine blk_drewN ?_ _ | refine blk_drew ?_ | refine blk_alloc ?_ _)); refine blk_put (cs := #[.int .i64 t200, .int .i64 0, .slice none 0 0, .slice none 0 0, .slice none 0 0]) ?_ 1 _ rfl; (with_reducible repeat (first | refine blk_drewN ?_ _ | refine blk_drew ?_ | refine blk_alloc ?_ _)); refine blk_put (cs := #[.int .i64 0, .int .i64 0, .slice none 0 0, .slice none 0 0, .slice none 0 0]) ?_ 0 _ rfl; (with_reducible repeat (first | refine blk_drewN ?_ _ | refine blk_drew ?_ | refine blk_alloc ?_ _)); exact BK212.out⟩
        have n4_ : Aside0 (Below w.heap.size w (((((w29.setCell ⟨gb212, 0, none⟩ (.int .i64 t200)).setCell ⟨gb212, 1, none⟩ (.int .i64 t201)).setCell ⟨gb212, 2, none⟩ (.slice Ao31 t202.length co31)).setCell ⟨gb212, 3, none⟩ (.slice Ao32 t205.length co32)).setCell ⟨gb212, 4, none⟩ (.slice Ao33 t208.length co33))) := ⟨by repeat (first | (with_reducible first | exact HB.out | apply below_alloc | apply pw_below_drewN | apply below_drew1 | refine below_set ?_ GE212.out) | exact HB.out)⟩
        (try clear HO204)
        (try clear HO207)
        (try clear HO210)
        (try clear BK212)
        (try clear HB)
        generalize (((((w29.setCell ⟨gb212, 0, none⟩ (.int .i64 t200)).setCell ⟨gb212, 1, none⟩ (.int .i64 t201)).setCell ⟨gb212, 2, none⟩ (.slice Ao31 t202.length co31)).setCell ⟨gb212, 3, none⟩ (.slice Ao32 t205.length co32)).setCell ⟨gb212, 4, none⟩ (.slice Ao33 t208.length co33)) = w34 at n0_ n1_ n2_ n3_ n4_ ⊢
        have HO204 := n0_
        have HO207 := n1_
        have HO210 := n2_
        have BK212 := n3_
        have HB := n4_
        clear n0_ n1_ n2_ n3_ n4_
        (try (rw [drewN_self w34]; generalize hq_ : World.drewN w34 _ = w34; have n0_ : Aside0 (Kd.R (Kd.int .u8) 5 w34 w.heap.size (fun k_ => some k_ ≠ (.slice Ao32 t205.length co32 : Value).ownBlock ∧ some k_ ≠ (.slice Ao33 t208.length co33 : Value).ownBlock) (.slice Ao31 t202.length co31) t202) := ⟨by rw [← hq_]; exact (by (with_reducible repeat (first | apply Kd.R_alloc | apply Kd.R_drewN | apply Kd.R_drew)); exact HO204.out)⟩; have n1_ : Aside0 (Kd.R (Kd.int .u8) 5 w34 w.heap.size (fun k_ => some k_ ≠ (.slice Ao31 t202.length co31 : Value).ownBlock ∧ some k_ ≠ (.slice Ao33 t208.length co33 : Value).ownBlock) (.slice Ao32 t205.length co32) t205) := ⟨by rw [← hq_]; exact (by (with_reducible repeat (first | apply Kd.R_alloc | apply Kd.R_drewN | apply Kd.R_drew)); exact HO207.out)⟩; have n2_ : Aside0 (Kd.R (Kd.int .u8) 5 w34 w.heap.size (fun k_ => some k_ ≠ (.slice Ao31 t202.length co31 : Value).ownBlock ∧ some k_ ≠ (.slice Ao32 t205.length co32 : Value).ownBlock) (.slice Ao33 t208.length co33) t208) := ⟨by rw [← hq_]; exact (by (with_reducible repeat (first | apply Kd.R_alloc | apply Kd.R_drewN | apply Kd.R_drew)); exact HO210.out)⟩; have n3_ : Aside0 (w34.heap[gb212]? = some (.cells #[.int .i64 t200, .int .i64 t201, .slice Ao31 t202.length co31, .slice Ao32 t205.length co32, .slice Ao33 t208.length co33] 24 (0, 0))) := ⟨by rw [← hq_]; exact (by (with_reducible repeat (first | refine blk_drewN ?_ _ | refine blk_drew ?_ | refine blk_alloc ?_ _)); exact BK212.out)⟩; have n4_ : Aside0 (Below w.heap.size w w34) := ⟨by rw [← hq_]; exact (by repeat (first | (with_reducible first | exact HB.out | apply below_alloc | apply pw_below_drewN | apply below_drew1 | refine below_set ?_ GE212.out) | exact HB.out))⟩; clear HO204 HO207 HO210 BK212 HB hq_; have HO204 := n0_; have HO207 := n1_; have HO210 := n2_; have BK212 := n3_; have HB := n4_; clear n0_ n1_ n2_ n3_ n4_))
        have n0_ := Aside0.mk (Kd.R_drew HO204.out)
        have n1_ := Aside0.mk (Kd.R_drew HO207.out)
        have n2_ := Aside0.mk (Kd.R_drew HO210.out)
        have n3_ := Aside0.mk (blk_drew BK212.out)
        have n4_ := Aside0.mk (below_drew1 HB.out)
        clear HO204
        clear HO207
        clear HO210
        clear BK212
        clear HB
        have HO204 := n0_
        have HO207 := n1_
        have HO210 := n2_
        have BK212 := n3_
        have HB := n4_
        clear n0_ n1_ n2_ n3_ n4_
        refine start_ (n := 16) (S := fun w' => True) (ds := []) #[false, false, false, false, false, false, false, false, false, false, false, false, false, false, false, false] (by kernel_rfl) rfl rfl trivial (fun hHeld => ?_); refine with_tabW cutroomlaw07_PlaneFlat.tab4 cutroomlaw07_PlaneFlat.bits4 (fun HT_ HW_ => ?_)
        generalize w34.drew = w35 at HO204 HO207 HO210 BK212 HB hHeld ⊢
        refine one_ (i := 0) (N := some 31) #[true, false, false, false, false, false, false, false, false, false, false, false, false, false, false, false] rfl rfl (one_of HT_.out (by kernel_rfl)) (by decide) (fun K hK => ?_)
        refine goes_ Try.func14 (by kernel_rfl) rfl #[] (by rfl) rfl rfl (by (try simp only [List.map_toArray, List.map_cons, List.map_nil]); first | done | rfl | (simp only [List.length_drop, List.length_take]; rfl)) ?_
        with_reducible refine (cutroomlaw07_awake.calls k  true _ A9.out).mono ?_
        rintro e w36 ⟨rfl, hb⟩
        refine ⟨_, rfl, ?_⟩
        have n0_ := Aside0.mk (Kd.R_below (by (with_reducible repeat (first | apply Kd.R_alloc | apply Kd.R_drewN | apply Kd.R_drew)); exact HO204.out) hb)
        have n1_ := Aside0.mk (Kd.R_below (by (with_reducible repeat (first | apply Kd.R_alloc | apply Kd.R_drewN | apply Kd.R_drew)); exact HO207.out) hb)
        have n2_ := Aside0.mk (Kd.R_below (by (with_reducible repeat (first | apply Kd.R_alloc | apply Kd.R_drewN | apply Kd.R_drew)); exact HO210.out) hb)
        have n3_ := Aside0.mk (blk_below (g := gb212) (o := .cells #[.int .i64 t200, .int .i64 t201, .slice Ao31 t202.length co31, .slice Ao32 t205.length co32, .slice Ao33 t208.length co33] 24 (0, 0)) (by (with_reducible repeat (first | refine blk_drewN ?_ _ | refine blk_drew ?_ | refine blk_alloc ?_ _)); exact BK212.out) hb)
        have n4_ := Aside0.mk (below_step (by repeat (first | (with_reducible first | exact HB.out | apply below_alloc | apply pw_below_drewN | apply below_drew1 | refine below_set ?_ GE212.out) | exact HB.out)) hb)
        clear HO204
        clear HO207
        clear HO210
        clear BK212
        clear HB
        have HO204 := n0_
        have HO207 := n1_
        have HO210 := n2_
        have BK212 := n3_
        have HB := n4_
        clear n0_ n1_ n2_ n3_ n4_
        (try clear hb)
        (try clear hb2)
        (try clear hk)
        (try clear hi)
        refine hK.out _ _ trivial (fun hHeld => ?_)
        clear hK K
        refine norm_ (a' := ?_) ?_ ?_
        rotate_left
        · show Act.put _ (some 31) _ = _
          simp only [Act.put, List.setIfInBounds_toArray, List.set_cons_zero, List.set_cons_succ, i64_w, i32_w]
          rfl
        refine pure_ (i := 1) (N := some 32) (v := ?_) (a' := ?_) #[true, true, false, false, false, false, false, false, false, false, false, false, false, false, false, false] rfl rfl (any_of HT_.out (by kernel_rfl)) (fun _ _ _ h => h) (Or.inl ⟨by rfl, ?_⟩) ?_ ?_
        rotate_left
        · intro w'
          go_simp
          with_reducible rfl
        rotate_left
        · simp only [Act.put, List.setIfInBounds_toArray, List.set_cons_zero, List.set_cons_succ, i64_w, i32_w]
          rfl
        refine pure_ (i := 2) (N := some 33) (v := ?_) (a' := ?_) #[true, true, true, false, false, false, false, false, false, false, false, false, false, false, false, false] rfl rfl (any_of HT_.out (by kernel_rfl)) (fun _ _ _ h => h) (Or.inl ⟨by rfl, ?_⟩) ?_ ?_
        rotate_left
        · intro w'
          go_simp
          with_reducible rfl
        rotate_left
        · simp only [Act.put, List.setIfInBounds_toArray, List.set_cons_zero, List.set_cons_succ, i64_w, i32_w]
          rfl
        refine pure_ (i := 3) (N := some 34) (v := ?_) (a' := ?_) #[true, true, true, true, false, false, false, false, false, false, false, false, false, false, false, false] rfl rfl (any_of HT_.out (by kernel_rfl)) (fun _ _ _ h => h) (Or.inl ⟨by rfl, ?_⟩) ?_ ?_
        rotate_left
        · intro w'
          go_simp
          with_reducible rfl
        rotate_left
        · simp only [Act.put, List.setIfInBounds_toArray, List.set_cons_zero, List.set_cons_succ, i64_w, i32_w]
          rfl
        refine pure_ (i := 4) (N := some 35) (v := ?_) (a' := ?_) #[true, true, true, true, true, false, false, false, false, false, false, false, false, false, false, false] rfl rfl (any_of HT_.out (by kernel_rfl)) (fun _ _ _ h => h) (Or.inl ⟨by rfl, ?_⟩) ?_ ?_
        rotate_left
        · intro w'
          go_simp
          with_reducible rfl
        rotate_left
        · simp only [Act.put, List.setIfInBounds_toArray, List.set_cons_zero, List.set_cons_succ, i64_w, i32_w]
          rfl
        refine pure_ (i := 5) (N := some 36) (v := ?_) (a' := ?_) #[true, true, true, true, true, true, false, false, false, false, false, false, false, false, false, false] rfl rfl (any_of HT_.out (by kernel_rfl)) (fun _ _ _ h => h) (Or.inl ⟨by rfl, ?_⟩) ?_ ?_
        rotate_left
        · intro w'
          go_simp
          with_reducible rfl
        rotate_left
        · simp only [Act.put, List.setIfInBounds_toArray, List.set_cons_zero, List.set_cons_succ, i64_w, i32_w]
          rfl
        refine pure_ (i := 6) (N := some 37) (v := undef) (a' := ?_) #[true, true, true, true, true, true, true, false, false, false, false, false, false, false, false, false] rfl rfl (any_of HT_.out (by kernel_rfl)) (fun _ _ _ h => h) (Or.inr ⟨by rfl, rfl⟩) ?_ ?_
        rotate_left
        · simp only [Act.put, List.setIfInBounds_toArray, List.set_cons_zero, List.set_cons_succ, i64_w, i32_w]
          rfl
        refine pure_ (i := 7) (N := some 38) (v := undef) (a' := ?_) #[true, true, true, true, true, true, true, true, false, false, false, false, false, false, false, false] rfl rfl (any_of HT_.out (by kernel_rfl)) (fun _ _ _ h => h) (Or.inr ⟨by rfl, rfl⟩) ?_ ?_
        rotate_left
        · simp only [Act.put, List.setIfInBounds_toArray, List.set_cons_zero, List.set_cons_succ, i64_w, i32_w]
          rfl
        refine pure_ (i := 8) (N := some 39) (v := undef) (a' := ?_) #[true, true, true, true, true, true, true, true, true, false, false, false, false, false, false, false] rfl rfl (any_of HT_.out (by kernel_rfl)) (fun _ _ _ h => h) (Or.inr ⟨by rfl, rfl⟩) ?_ ?_
        rotate_left
        · simp only [Act.put, List.setIfInBounds_toArray, List.set_cons_zero, List.set_cons_succ, i64_w, i32_w]
          rfl
        refine pure_ (i := 9) (N := some 40) (v := undef) (a' := ?_) #[true, true, true, true, true, true, true, true, true, true, false, false, false, false, false, false] rfl rfl (any_of HT_.out (by kernel_rfl)) (fun _ _ _ h => h) (Or.inr ⟨by rfl, rfl⟩) ?_ ?_
        rotate_left
        · simp only [Act.put, List.setIfInBounds_toArray, List.set_cons_zero, List.set_cons_succ, i64_w, i32_w]
          rfl
        refine pure_ (i := 10) (N := some 41) (v := undef) (a' := ?_) #[true, true, true, true, true, true, true, true, true, true, true, false, false, false, false, false] rfl rfl (any_of HT_.out (by kernel_rfl)) (fun _ _ _ h => h) (Or.inr ⟨by rfl, rfl⟩) ?_ ?_
        rotate_left
        · simp only [Act.put, List.setIfInBounds_toArray, List.set_cons_zero, List.set_cons_succ, i64_w, i32_w]
          rfl
        refine pure_ (i := 11) (N := some 42) (v := undef) (a' := ?_) #[true, true, true, true, true, true, true, true, true, true, true, true, false, false, false, false] rfl rfl (any_of HT_.out (by kernel_rfl)) (fun _ _ _ h => h) (Or.inr ⟨by rfl, rfl⟩) ?_ ?_
        rotate_left
        · simp only [Act.put, List.setIfInBounds_toArray, List.set_cons_zero, List.set_cons_succ, i64_w, i32_w]
          rfl
        refine pure_ (i := 12) (N := some 43) (v := undef) (a' := ?_) #[true, true, true, true, true, true, true, true, true, true, true, true, true, false, false, false] rfl rfl (any_of HT_.out (by kernel_rfl)) (fun _ _ _ h => h) (Or.inr ⟨by rfl, rfl⟩) ?_ ?_
        rotate_left
        · simp only [Act.put, List.setIfInBounds_toArray, List.set_cons_zero, List.set_cons_succ, i64_w, i32_w]
          rfl
        refine pure_ (i := 13) (N := some 44) (v := undef) (a' := ?_) #[true, true, true, true, true, true, true, true, true, true, true, true, true, true, false, false] rfl rfl (any_of HT_.out (by kernel_rfl)) (fun _ _ _ h => h) (Or.inr ⟨by rfl, rfl⟩) ?_ ?_
        rotate_left
        · simp only [Act.put, List.setIfInBounds_toArray, List.set_cons_zero, List.set_cons_succ, i64_w, i32_w]
          rfl
        refine pure_ (i := 14) (N := some 45) (v := ?_) (a' := ?_) #[true, true, true, true, true, true, true, true, true, true, true, true, true, true, true, false] rfl rfl (any_of HT_.out (by kernel_rfl)) (fun _ _ _ h => h) (Or.inl ⟨by rfl, ?_⟩) ?_ ?_
        rotate_left
        · intro w'
          go_simp
          with_reducible rfl
        rotate_left
        · simp only [Act.put, List.setIfInBounds_toArray, List.set_cons_zero, List.set_cons_succ, i64_w, i32_w]
          rfl
        refine pure_ (i := 15) (N := some 10) (v := ?_) (a' := ?_) #[true, true, true, true, true, true, true, true, true, true, true, true, true, true, true, true] rfl rfl (any_of HT_.out (by kernel_rfl)) (fun _ _ _ h => h) (Or.inl ⟨by rfl, ?_⟩) ?_ ?_
        rotate_left
        · intro w'
          go_simp
          with_reducible rfl
        rotate_left
        · simp only [Act.put, List.setIfInBounds_toArray, List.set_cons_zero, List.set_cons_succ, i64_w, i32_w]
          rfl
        refine done_ (done_of HT_.out (by kernel_rfl)) ?_
        try go_wp2
        go_ret
        exact ⟨by first | rfl | (simp [errW_none, errW_some] <;> rfl) | (simp [*, errW_none, errW_some] <;> rfl), by repeat (first | (with_reducible first | exact HB.out | apply below_alloc | apply pw_below_drewN | apply below_drew1 | refine below_set ?_ GE212.out) | exact HB.out)⟩
    · replace c10 := Bool.eq_false_iff.mpr c10
      subst c10
      have H1 : (some false) = some r := by rw [if_neg (show ¬ (false = true) by decide)] at H; exact H
      clear H
      have H := H1
      clear H1
      obtain rfl := Option.some.inj H
      go_enter Try.func4, Try.ntmps4
      try go_wp2_with (first | ((with_reducible refine gate_callee (f := 19) rfl ?_); refine goesL_ (some 19) rfl rfl Try.func19 (by kernel_rfl) rfl #[.int .i64 a0, .int .i64 a1, .int .u8 a2, .int .u8 a3, .int .u8 a4] rfl (by (try simp only [List.map_toArray, List.map_cons, List.map_nil]); first | done | rfl | (simp only [List.length_drop, List.length_take]; rfl)) ?_; (with_reducible refine (plane_Flat.calls k a0 a1 a2 a3 a4 t200 t201 t202 t205 t208 t211 _ A6.out).mono ?_); rintro e w37 ⟨v203, v206, v209, rfl, ho0, ho1, ho2, hb⟩; refine ⟨_, rfl, ?_⟩; have n0_ := Aside0.mk (Kd.R_lower ho0 (below_size (by repeat (first | (with_reducible first | exact HB.out | apply below_alloc | apply pw_below_drewN | apply below_drew1) | exact HB.out)))); have n1_ := Aside0.mk (Kd.R_lower ho1 (below_size (by repeat (first | (with_reducible first | exact HB.out | apply below_alloc | apply pw_below_drewN | apply below_drew1) | exact HB.out)))); have n2_ := Aside0.mk (Kd.R_lower ho2 (below_size (by repeat (first | (with_reducible first | exact HB.out | apply below_alloc | apply pw_below_drewN | apply below_drew1) | exact HB.out)))); have n3_ := Aside0.mk (below_step (by repeat (first | (with_reducible first | exact HB.out | apply below_alloc | apply pw_below_drewN | apply below_drew1) | exact HB.out)) hb); clear HB; have HO204 := n0_; have HO207 := n1_; have HO210 := n2_; have HB := n3_; clear n0_ n1_ n2_ n3_; (try clear hb); (try clear hb2); (try clear hk); (try clear hi); (try clear ho0); (try clear ho1); (try clear ho2)) | ((with_reducible refine gate_dst (N := 11) rfl ?_); refine box_event ?hg (N := 11) ?hd (cs := #[.int .i64 0, .int .i64 0, .slice none 0 0, .slice none 0 0, .slice none 0 0]) (t := 24) ?hr ?_; (case hd => rfl); (case hg => rfl); (case hr => first | (go_simp; done) | (go_simp; rfl)); intro gb212 hg w38 hbox hb; have n0_ := Aside0.mk (Kd.R_below (by (with_reducible repeat (first | apply Kd.R_alloc | apply Kd.R_drewN | apply Kd.R_drew)); exact HO204.out) hb); have n1_ := Aside0.mk (Kd.R_below (by (with_reducible repeat (first | apply Kd.R_alloc | apply Kd.R_drewN | apply Kd.R_drew)); exact HO207.out) hb); have n2_ := Aside0.mk (Kd.R_below (by (with_reducible repeat (first | apply Kd.R_alloc | apply Kd.R_drewN | apply Kd.R_drew)); exact HO210.out) hb); have n3_ := Aside0.mk (below_step (by repeat (first | (with_reducible first | exact HB.out | apply below_alloc | apply pw_below_drewN | apply below_drew1) | exact HB.out)) hb); have n4_ := Aside0.mk (hbox); have n5_ := Aside0.mk ((by rw [hg]; exact (below_size (by repeat (first | (with_reducible first | exact HB.out | apply below_alloc | apply pw_below_drewN | apply below_drew1) | exact HB.out))) : w.heap.size ≤ gb212)); have n6_ := Aside0.mk ((by rw [hg]; exact (below_size (by repeat (first | (with_reducible first | exact HB.out | apply below_alloc | apply pw_below_drewN | apply below_drew1) | exact HB.out))) : w.heap.size ≤ gb212)); clear HO204; clear HO207; clear HO210; clear HB; have HO204 := n0_; have HO207 := n1_; have HO210 := n2_; have HB := n3_; have BK212 := n4_; have GW212 := n5_; have GE212 := n6_; clear n0_ n1_ n2_ n3_ n4_ n5_ n6_; clear hb hbox hg; have hcz39_0 : w38.cell? ⟨gb212, 0, none⟩ = some (.int .i64 0) := (blk_cell BK212.out 0).trans rfl; have hcz39_1 : w38.cell? ⟨gb212, 1, none⟩ = some (.int .i64 0) := (blk_cell BK212.out 1).trans rfl; have hcz39_2 : w38.cell? ⟨gb212, 2, none⟩ = some (.slice none 0 0) := (blk_cell BK212.out 2).trans rfl; have hcz39_3 : w38.cell? ⟨gb212, 3, none⟩ = some (.slice none 0 0) := (blk_cell BK212.out 3).trans rfl; have hcz39_4 : w38.cell? ⟨gb212, 4, none⟩ = some (.slice none 0 0) := (blk_cell BK212.out 4).trans rfl; have hfz39_0 := blk_frozen BK212.out 0; have hfz39_1 := blk_frozen BK212.out 1; have hfz39_2 := blk_frozen BK212.out 2; have hfz39_3 := blk_frozen BK212.out 3; have hfz39_4 := blk_frozen BK212.out 4; obtain ⟨Ao40, co40, eo40⟩ := Kd.R_slice HO204.out; subst eo40; obtain ⟨Ao41, co41, eo41⟩ := Kd.R_slice HO207.out; subst eo41; obtain ⟨Ao42, co42, eo42⟩ := Kd.R_slice HO210.out; subst eo42) | ((with_reducible refine gate_callee (f := 20) rfl ?_); refine goesL_ (some 24) rfl rfl Try.func20 (by kernel_rfl) rfl #[.int .i64 a0, .int .i64 a1] rfl (by (try simp only [List.map_toArray, List.map_cons, List.map_nil]); first | done | rfl | (simp only [List.length_drop, List.length_take]; rfl)) ?_; (with_reducible refine (cutroomref07_Size.calls a0 a1 true _ A7.out).mono ?_); rintro e w' ⟨rfl, ⟨nd, rfl⟩⟩; refine ⟨_, rfl, ?_⟩))
      have n0_ : Aside0 (Kd.R (Kd.int .u8) 5 (((((w38.setCell ⟨gb212, 0, none⟩ (.int .i64 t200)).setCell ⟨gb212, 1, none⟩ (.int .i64 t201)).setCell ⟨gb212, 2, none⟩ (.slice Ao40 t202.length co40)).setCell ⟨gb212, 3, none⟩ (.slice Ao41 t205.length co41)).setCell ⟨gb212, 4, none⟩ (.slice Ao42 t208.length co42)) w.heap.size (fun k_ => some k_ ≠ (.slice Ao41 t205.length co41 : Value).ownBlock ∧ some k_ ≠ (.slice Ao42 t208.length co42 : Value).ownBlock) (.slice Ao40 t202.length co40) t202) := ⟨by (with_reducible repeat (first | apply Kd.R_alloc | apply Kd.R_drewN | apply Kd.R_drew)); exact Kd.R_mono (Kd.R_far (p := ⟨gb212, 4, none⟩) (Kd.R_far (p := ⟨gb212, 3, none⟩) (Kd.R_far (p := ⟨gb212, 2, none⟩) (Kd.R_far (p := ⟨gb212, 1, none⟩) (Kd.R_far (p := ⟨gb212, 0, none⟩) (Kd.R_types HO204.out BK212.out (by decide)) (fun _ hk => hk.2) (.int .i64 t200)) (fun _ hk => hk.2) (.int .i64 t201)) (fun _ hk => hk.2) (.slice Ao40 t202.length co40)) (fun _ hk => hk.2) (.slice Ao41 t205.length co41)) (fun _ hk => hk.2) (.slice Ao42 t208.length co42)) (fun _ hk => ⟨hk.1.1, hk.1.2⟩)⟩
      have n1_ : Aside0 (Kd.R (Kd.int .u8) 5 (((((w38.setCell ⟨gb212, 0, none⟩ (.int .i64 t200)).setCell ⟨gb212, 1, none⟩ (.int .i64 t201)).setCell ⟨gb212, 2, none⟩ (.slice Ao40 t202.length co40)).setCell ⟨gb212, 3, none⟩ (.slice Ao41 t205.length co41)).setCell ⟨gb212, 4, none⟩ (.slice Ao42 t208.length co42)) w.heap.size (fun k_ => some k_ ≠ (.slice Ao40 t202.length co40 : Value).ownBlock ∧ some k_ ≠ (.slice Ao42 t208.length co42 : Value).ownBlock) (.slice Ao41 t205.length co41) t205) := ⟨by (with_reducible repeat (first | apply Kd.R_alloc | apply Kd.R_drewN | apply Kd.R_drew)); exact Kd.R_mono (Kd.R_far (p := ⟨gb212, 4, none⟩) (Kd.R_far (p := ⟨gb212, 3, none⟩) (Kd.R_far (p := ⟨gb212, 2, none⟩) (Kd.R_far (p := ⟨gb212, 1, none⟩) (Kd.R_far (p := ⟨gb212, 0, none⟩) (Kd.R_types HO207.out BK212.out (by decide)) (fun _ hk => hk.2) (.int .i64 t200)) (fun _ hk => hk.2) (.int .i64 t201)) (fun _ hk => hk.2) (.slice Ao40 t202.length co40)) (fun _ hk => hk.2) (.slice Ao41 t205.length co41)) (fun _ hk => hk.2) (.slice Ao42 t208.length co42)) (fun _ hk => ⟨hk.1.1, hk.1.2⟩)⟩
      have n2_ : Aside0 (Kd.R (Kd.int .u8) 5 (((((w38.setCell ⟨gb212, 0, none⟩ (.int .i64 t200)).setCell ⟨gb212, 1, none⟩ (.int .i64 t201)).setCell ⟨gb212, 2, none⟩ (.slice Ao40 t202.length co40)).setCell ⟨gb212, 3, none⟩ (.slice Ao41 t205.length co41)).setCell ⟨gb212, 4, none⟩ (.slice Ao42 t208.length co42)) w.heap.size (fun k_ => some k_ ≠ (.slice Ao40 t202.length co40 : Value).ownBlock ∧ some k_ ≠ (.slice Ao41 t205.length co41 : Value).ownBlock) (.slice Ao42 t208.length co42) t208) := ⟨by (with_reducible repeat (first | apply Kd.R_alloc | apply Kd.R_drewN | apply Kd.R_drew)); exact Kd.R_mono (Kd.R_far (p := ⟨gb212, 4, none⟩) (Kd.R_far (p := ⟨gb212, 3, none⟩) (Kd.R_far (p := ⟨gb212, 2, none⟩) (Kd.R_far (p := ⟨gb212, 1, none⟩) (Kd.R_far (p := ⟨gb212, 0, none⟩) (Kd.R_types HO210.out BK212.out (by decide)) (fun _ hk => hk.2) (.int .i64 t200)) (fun _ hk => hk.2) (.int .i64 t201)) (fun _ hk => hk.2) (.slice Ao40 t202.length co40)) (fun _ hk => hk.2) (.slice Ao41 t205.length co41)) (fun _ hk => hk.2) (.slice Ao42 t208.length co42)) (fun _ hk => ⟨hk.1.1, hk.1.2⟩)⟩
      have n3_ : Aside0 ((((((w38.setCell ⟨gb212, 0, none⟩ (.int .i64 t200)).setCell ⟨gb212, 1, none⟩ (.int .i64 t201)).setCell ⟨gb212, 2, none⟩ (.slice Ao40 t202.length co40)).setCell ⟨gb212, 3, none⟩ (.slice Ao41 t205.length co41)).setCell ⟨gb212, 4, none⟩ (.slice Ao42 t208.length co42)).heap[gb212]? = some (.cells #[.int .i64 t200, .int .i64 t201, .slice Ao40 t202.length co40, .slice Ao41 t205.length co41, .slice Ao42 t208.length co42] 24 (0, 0))) := ⟨by (with_reducible repeat (first | refine blk_drewN ?_ _ | refine blk_drew ?_ | refine blk_alloc ?_ _)); refine blk_put (cs := #[.int .i64 t200, .int .i64 t201, .slice Ao40 t202.length co40, .slice Ao41 t205.length co41, .slice none 0 0]) ?_ 4 _ rfl; (with_reducible repeat (first | refine blk_drewN ?_ _ | refine blk_drew ?_ | refine blk_alloc ?_ _)); refine blk_put (cs := #[.int .i64 t200, .int .i64 t201, .slice Ao40 t202.length co40, .slice none 0 0, .slice none 0 0]) ?_ 3 _ rfl; (with_reducible repeat (first | refine blk_drewN ?_ _ | refine blk_drew ?_ | refine blk_alloc ?_ _)); refine blk_put (cs := #[.int .i64 t200, .int .i64 t201, .slice none 0 0, .slice none 0 0, .slice none 0 0]) ?_ 2 _ rfl; (with_reducible repeat (first | refine blk_drewN ?_ _ | refine blk_drew ?_ | refine blk_alloc ?_ _)); refine blk_put (cs := #[.int .i64 t200, .int .i64 0, .slice none 0 0, .slice none 0 0, .slice none 0 0]) ?_ 1 _ rfl; (with_reducible repeat (first | refine blk_drewN ?_ _ | refine blk_drew ?_ | refine blk_alloc ?_ _)); refine blk_put (cs := #[.int .i64 0, .int .i64 0, .slice none 0 0, .slice none 0 0, .slice none 0 0]) ?_ 0 _ rfl; (with_reducible repeat (first | refine blk_drewN ?_ _ | refine blk_drew ?_ | refine blk_alloc ?_ _)); exact BK212.out⟩
      have n4_ : Aside0 (Below w.heap.size w (((((w38.setCell ⟨gb212, 0, none⟩ (.int .i64 t200)).setCell ⟨gb212, 1, none⟩ (.int .i64 t201)).setCell ⟨gb212, 2, none⟩ (.slice Ao40 t202.length co40)).setCell ⟨gb212, 3, none⟩ (.slice Ao41 t205.length co41)).setCell ⟨gb212, 4, none⟩ (.slice Ao42 t208.length co42))) := ⟨by repeat (first | (with_reducible first | exact HB.out | apply below_alloc | apply pw_below_drewN | apply below_drew1 | refine below_set ?_ GE212.out) | exact HB.out)⟩
      (try clear HO204)
      (try clear HO207)
      (try clear HO210)
      (try clear BK212)
      (try clear HB)
      generalize (((((w38.setCell ⟨gb212, 0, none⟩ (.int .i64 t200)).setCell ⟨gb212, 1, none⟩ (.int .i64 t201)).setCell ⟨gb212, 2, none⟩ (.slice Ao40 t202.length co40)).setCell ⟨gb212, 3, none⟩ (.slice Ao41 t205.length co41)).setCell ⟨gb212, 4, none⟩ (.slice Ao42 t208.length co42)) = w43 at n0_ n1_ n2_ n3_ n4_ ⊢
      have HO204 := n0_
      have HO207 := n1_
      have HO210 := n2_
      have BK212 := n3_
      have HB := n4_
      clear n0_ n1_ n2_ n3_ n4_
      (try (rw [drewN_self w43]; generalize hq_ : World.drewN w43 _ = w43; have n0_ : Aside0 (Kd.R (Kd.int .u8) 5 w43 w.heap.size (fun k_ => some k_ ≠ (.slice Ao41 t205.length co41 : Value).ownBlock ∧ some k_ ≠ (.slice Ao42 t208.length co42 : Value).ownBlock) (.slice Ao40 t202.length co40) t202) := ⟨by rw [← hq_]; exact (by (with_reducible repeat (first | apply Kd.R_alloc | apply Kd.R_drewN | apply Kd.R_drew)); exact HO204.out)⟩; have n1_ : Aside0 (Kd.R (Kd.int .u8) 5 w43 w.heap.size (fun k_ => some k_ ≠ (.slice Ao40 t202.length co40 : Value).ownBlock ∧ some k_ ≠ (.slice Ao42 t208.length co42 : Value).ownBlock) (.slice Ao41 t205.length co41) t205) := ⟨by rw [← hq_]; exact (by (with_reducible repeat (first | apply Kd.R_alloc | apply Kd.R_drewN | apply Kd.R_drew)); exact HO207.out)⟩; have n2_ : Aside0 (Kd.R (Kd.int .u8) 5 w43 w.heap.size (fun k_ => some k_ ≠ (.slice Ao40 t202.length co40 : Value).ownBlock ∧ some k_ ≠ (.slice Ao41 t205.length co41 : Value).ownBlock) (.slice Ao42 t208.length co42) t208) := ⟨by rw [← hq_]; exact (by (with_reducible repeat (first | apply Kd.R_alloc | apply Kd.R_drewN | apply Kd.R_drew)); exact HO210.out)⟩; have n3_ : Aside0 (w43.heap[gb212]? = some (.cells #[.int .i64 t200, .int .i64 t201, .slice Ao40 t202.length co40, .slice Ao41 t205.length co41, .slice Ao42 t208.length co42] 24 (0, 0))) := ⟨by rw [← hq_]; exact (by (with_reducible repeat (first | refine blk_drewN ?_ _ | refine blk_drew ?_ | refine blk_alloc ?_ _)); exact BK212.out)⟩; have n4_ : Aside0 (Below w.heap.size w w43) := ⟨by rw [← hq_]; exact (by repeat (first | (with_reducible first | exact HB.out | apply below_alloc | apply pw_below_drewN | apply below_drew1 | refine below_set ?_ GE212.out) | exact HB.out))⟩; clear HO204 HO207 HO210 BK212 HB hq_; have HO204 := n0_; have HO207 := n1_; have HO210 := n2_; have BK212 := n3_; have HB := n4_; clear n0_ n1_ n2_ n3_ n4_))
      have n0_ := Aside0.mk (Kd.R_drew HO204.out)
      have n1_ := Aside0.mk (Kd.R_drew HO207.out)
      have n2_ := Aside0.mk (Kd.R_drew HO210.out)
      have n3_ := Aside0.mk (blk_drew BK212.out)
      have n4_ := Aside0.mk (below_drew1 HB.out)
      clear HO204
      clear HO207
      clear HO210
      clear BK212
      clear HB
      have HO204 := n0_
      have HO207 := n1_
      have HO210 := n2_
      have BK212 := n3_
      have HB := n4_
      clear n0_ n1_ n2_ n3_ n4_
      refine start_ (n := 16) (S := fun w' => True) (ds := []) #[false, false, false, false, false, false, false, false, false, false, false, false, false, false, false, false] (by kernel_rfl) rfl rfl trivial (fun hHeld => ?_); refine with_tabW cutroomlaw07_PlaneFlat.tab4 cutroomlaw07_PlaneFlat.bits4 (fun HT_ HW_ => ?_)
      generalize w43.drew = w44 at HO204 HO207 HO210 BK212 HB hHeld ⊢
      refine one_ (i := 0) (N := some 31) #[true, false, false, false, false, false, false, false, false, false, false, false, false, false, false, false] rfl rfl (one_of HT_.out (by kernel_rfl)) (by decide) (fun K hK => ?_)
      refine goes_ Try.func14 (by kernel_rfl) rfl #[] (by rfl) rfl rfl (by (try simp only [List.map_toArray, List.map_cons, List.map_nil]); first | done | rfl | (simp only [List.length_drop, List.length_take]; rfl)) ?_
      with_reducible refine (cutroomlaw07_awake.calls k  false _ A9.out).mono ?_
      rintro e w45 ⟨rfl, hb⟩
      refine ⟨_, rfl, ?_⟩
      have n0_ := Aside0.mk (Kd.R_below (by (with_reducible repeat (first | apply Kd.R_alloc | apply Kd.R_drewN | apply Kd.R_drew)); exact HO204.out) hb)
      have n1_ := Aside0.mk (Kd.R_below (by (with_reducible repeat (first | apply Kd.R_alloc | apply Kd.R_drewN | apply Kd.R_drew)); exact HO207.out) hb)
      have n2_ := Aside0.mk (Kd.R_below (by (with_reducible repeat (first | apply Kd.R_alloc | apply Kd.R_drewN | apply Kd.R_drew)); exact HO210.out) hb)
      have n3_ := Aside0.mk (blk_below (g := gb212) (o := .cells #[.int .i64 t200, .int .i64 t201, .slice Ao40 t202.length co40, .slice Ao41 t205.length co41, .slice Ao42 t208.length co42] 24 (0, 0)) (by (with_reducible repeat (first | refine blk_drewN ?_ _ | refine blk_drew ?_ | refine blk_alloc ?_ _)); exact BK212.out) hb)
      have n4_ := Aside0.mk (below_step (by repeat (first | (with_reducible first | exact HB.out | apply below_alloc | apply pw_below_drewN | apply below_drew1 | refine below_set ?_ GE212.out) | exact HB.out)) hb)
      clear HO204
      clear HO207
      clear HO210
      clear BK212
      clear HB
      have HO204 := n0_
      have HO207 := n1_
      have HO210 := n2_
      have BK212 := n3_
      have HB := n4_
      clear n0_ n1_ n2_ n3_ n4_
      (try clear hb)
      (try clear hb2)
      (try clear hk)
      (try clear hi)
      refine hK.out _ _ trivial (fun hHeld => ?_)
      clear hK K
      refine norm_ (a' := ?_) ?_ ?_
      rotate_left
      · show Act.put _ (some 31) _ = _
        simp only [Act.put, List.setIfInBounds_toArray, List.set_cons_zero, List.set_cons_succ, i64_w, i32_w]
        rfl
      refine pure_ (i := 1) (N := some 32) (v := ?_) (a' := ?_) #[true, true, false, false, false, false, false, false, false, false, false, false, false, false, false, false] rfl rfl (any_of HT_.out (by kernel_rfl)) (fun _ _ _ h => h) (Or.inl ⟨by rfl, ?_⟩) ?_ ?_
      rotate_left
      · intro w'
        go_simp
        with_reducible rfl
      rotate_left
      · simp only [Act.put, List.setIfInBounds_toArray, List.set_cons_zero, List.set_cons_succ, i64_w, i32_w]
        rfl
      refine pure_ (i := 2) (N := some 33) (v := undef) (a' := ?_) #[true, true, true, false, false, false, false, false, false, false, false, false, false, false, false, false] rfl rfl (any_of HT_.out (by kernel_rfl)) (fun _ _ _ h => h) (Or.inr ⟨by rfl, rfl⟩) ?_ ?_
      rotate_left
      · simp only [Act.put, List.setIfInBounds_toArray, List.set_cons_zero, List.set_cons_succ, i64_w, i32_w]
        rfl
      refine pure_ (i := 3) (N := some 34) (v := undef) (a' := ?_) #[true, true, true, true, false, false, false, false, false, false, false, false, false, false, false, false] rfl rfl (any_of HT_.out (by kernel_rfl)) (fun _ _ _ h => h) (Or.inr ⟨by rfl, rfl⟩) ?_ ?_
      rotate_left
      · simp only [Act.put, List.setIfInBounds_toArray, List.set_cons_zero, List.set_cons_succ, i64_w, i32_w]
        rfl
      refine pure_ (i := 4) (N := some 35) (v := ?_) (a' := ?_) #[true, true, true, true, true, false, false, false, false, false, false, false, false, false, false, false] rfl rfl (any_of HT_.out (by kernel_rfl)) (fun _ _ _ h => h) (Or.inl ⟨by rfl, ?_⟩) ?_ ?_
      rotate_left
      · intro w'
        go_simp
        with_reducible rfl
      rotate_left
      · simp only [Act.put, List.setIfInBounds_toArray, List.set_cons_zero, List.set_cons_succ, i64_w, i32_w]
        rfl
      refine pure_ (i := 5) (N := some 36) (v := ?_) (a' := ?_) #[true, true, true, true, true, true, false, false, false, false, false, false, false, false, false, false] rfl rfl (any_of HT_.out (by kernel_rfl)) (fun _ _ _ h => h) (Or.inl ⟨by rfl, ?_⟩) ?_ ?_
      rotate_left
      · intro w'
        go_simp
        with_reducible rfl
      rotate_left
      · simp only [Act.put, List.setIfInBounds_toArray, List.set_cons_zero, List.set_cons_succ, i64_w, i32_w]
        rfl
      refine pure_ (i := 6) (N := some 37) (v := undef) (a' := ?_) #[true, true, true, true, true, true, true, false, false, false, false, false, false, false, false, false] rfl rfl (any_of HT_.out (by kernel_rfl)) (fun _ _ _ h => h) (Or.inr ⟨by rfl, rfl⟩) ?_ ?_
      rotate_left
      · simp only [Act.put, List.setIfInBounds_toArray, List.set_cons_zero, List.set_cons_succ, i64_w, i32_w]
        rfl
      refine pure_ (i := 7) (N := some 38) (v := undef) (a' := ?_) #[true, true, true, true, true, true, true, true, false, false, false, false, false, false, false, false] rfl rfl (any_of HT_.out (by kernel_rfl)) (fun _ _ _ h => h) (Or.inr ⟨by rfl, rfl⟩) ?_ ?_
      rotate_left
      · simp only [Act.put, List.setIfInBounds_toArray, List.set_cons_zero, List.set_cons_succ, i64_w, i32_w]
        rfl
      refine pure_ (i := 8) (N := some 39) (v := undef) (a' := ?_) #[true, true, true, true, true, true, true, true, true, false, false, false, false, false, false, false] rfl rfl (any_of HT_.out (by kernel_rfl)) (fun _ _ _ h => h) (Or.inr ⟨by rfl, rfl⟩) ?_ ?_
      rotate_left
      · simp only [Act.put, List.setIfInBounds_toArray, List.set_cons_zero, List.set_cons_succ, i64_w, i32_w]
        rfl
      refine pure_ (i := 9) (N := some 40) (v := undef) (a' := ?_) #[true, true, true, true, true, true, true, true, true, true, false, false, false, false, false, false] rfl rfl (any_of HT_.out (by kernel_rfl)) (fun _ _ _ h => h) (Or.inr ⟨by rfl, rfl⟩) ?_ ?_
      rotate_left
      · simp only [Act.put, List.setIfInBounds_toArray, List.set_cons_zero, List.set_cons_succ, i64_w, i32_w]
        rfl
      refine pure_ (i := 10) (N := some 41) (v := undef) (a' := ?_) #[true, true, true, true, true, true, true, true, true, true, true, false, false, false, false, false] rfl rfl (any_of HT_.out (by kernel_rfl)) (fun _ _ _ h => h) (Or.inr ⟨by rfl, rfl⟩) ?_ ?_
      rotate_left
      · simp only [Act.put, List.setIfInBounds_toArray, List.set_cons_zero, List.set_cons_succ, i64_w, i32_w]
        rfl
      refine pure_ (i := 11) (N := some 42) (v := undef) (a' := ?_) #[true, true, true, true, true, true, true, true, true, true, true, true, false, false, false, false] rfl rfl (any_of HT_.out (by kernel_rfl)) (fun _ _ _ h => h) (Or.inr ⟨by rfl, rfl⟩) ?_ ?_
      rotate_left
      · simp only [Act.put, List.setIfInBounds_toArray, List.set_cons_zero, List.set_cons_succ, i64_w, i32_w]
        rfl
      refine pure_ (i := 12) (N := some 43) (v := undef) (a' := ?_) #[true, true, true, true, true, true, true, true, true, true, true, true, true, false, false, false] rfl rfl (any_of HT_.out (by kernel_rfl)) (fun _ _ _ h => h) (Or.inr ⟨by rfl, rfl⟩) ?_ ?_
      rotate_left
      · simp only [Act.put, List.setIfInBounds_toArray, List.set_cons_zero, List.set_cons_succ, i64_w, i32_w]
        rfl
      refine pure_ (i := 13) (N := some 44) (v := undef) (a' := ?_) #[true, true, true, true, true, true, true, true, true, true, true, true, true, true, false, false] rfl rfl (any_of HT_.out (by kernel_rfl)) (fun _ _ _ h => h) (Or.inr ⟨by rfl, rfl⟩) ?_ ?_
      rotate_left
      · simp only [Act.put, List.setIfInBounds_toArray, List.set_cons_zero, List.set_cons_succ, i64_w, i32_w]
        rfl
      refine pure_ (i := 14) (N := some 45) (v := ?_) (a' := ?_) #[true, true, true, true, true, true, true, true, true, true, true, true, true, true, true, false] rfl rfl (any_of HT_.out (by kernel_rfl)) (fun _ _ _ h => h) (Or.inl ⟨by rfl, ?_⟩) ?_ ?_
      rotate_left
      · intro w'
        go_simp
        with_reducible rfl
      rotate_left
      · simp only [Act.put, List.setIfInBounds_toArray, List.set_cons_zero, List.set_cons_succ, i64_w, i32_w]
        rfl
      refine pure_ (i := 15) (N := some 10) (v := ?_) (a' := ?_) #[true, true, true, true, true, true, true, true, true, true, true, true, true, true, true, true] rfl rfl (any_of HT_.out (by kernel_rfl)) (fun _ _ _ h => h) (Or.inl ⟨by rfl, ?_⟩) ?_ ?_
      rotate_left
      · intro w'
        go_simp
        with_reducible rfl
      rotate_left
      · simp only [Act.put, List.setIfInBounds_toArray, List.set_cons_zero, List.set_cons_succ, i64_w, i32_w]
        rfl
      refine done_ (done_of HT_.out (by kernel_rfl)) ?_
      try go_wp2
      go_ret
      exact ⟨by first | rfl | (simp [errW_none, errW_some] <;> rfl) | (simp [*, errW_none, errW_some] <;> rfl), by repeat (first | (with_reducible first | exact HB.out | apply below_alloc | apply pw_below_drewN | apply below_drew1 | refine below_set ?_ GE212.out) | exact HB.out)⟩
  · replace c8 := Bool.eq_false_iff.mpr c8
    subst c8
    have H1 : ((cutroomlaw07_awake.f k).bind fun t214 => (if t214 = true then (some (t211 == 1)) else (some false))) = some r := by rw [if_neg (show ¬ (false = true) by decide)] at H; exact H
    clear H
    have H := H1
    clear H1
    replace H := Option.bind_eq_some_iff.mp H
    obtain ⟨t214, A460, H⟩ := H
    replace H : (if t214 = true then (some (t211 == 1)) else (some false)) = some r := H
    have A46 := Aside0.mk A460
    clear A460
    by_cases c47 : t214 = true
    · subst c47
      have H1 : (some (t211 == 1)) = some r := by rw [if_pos rfl] at H; exact H
      clear H
      have H := H1
      clear H1
      obtain rfl := Option.some.inj H
      go_enter Try.func4, Try.ntmps4
      go_wp2_with (first | ((with_reducible refine gate_callee (f := 19) rfl ?_); refine goesL_ (some 19) rfl rfl Try.func19 (by kernel_rfl) rfl #[.int .i64 a0, .int .i64 a1, .int .u8 a2, .int .u8 a3, .int .u8 a4] rfl (by (try simp only [List.map_toArray, List.map_cons, List.map_nil]); first | done | rfl | (simp only [List.length_drop, List.length_take]; rfl)) ?_; (with_reducible refine (plane_Flat.calls k a0 a1 a2 a3 a4 t200 t201 t202 t205 t208 t211 _ A6.out).mono ?_); rintro e w48 ⟨v203, v206, v209, rfl, ho0, ho1, ho2, hb⟩; refine ⟨_, rfl, ?_⟩; have n0_ := Aside0.mk (Kd.R_lower ho0 (below_size (by repeat (first | (with_reducible first | exact HB.out | apply below_alloc | apply pw_below_drewN | apply below_drew1) | exact HB.out)))); have n1_ := Aside0.mk (Kd.R_lower ho1 (below_size (by repeat (first | (with_reducible first | exact HB.out | apply below_alloc | apply pw_below_drewN | apply below_drew1) | exact HB.out)))); have n2_ := Aside0.mk (Kd.R_lower ho2 (below_size (by repeat (first | (with_reducible first | exact HB.out | apply below_alloc | apply pw_below_drewN | apply below_drew1) | exact HB.out)))); have n3_ := Aside0.mk (below_step (by repeat (first | (with_reducible first | exact HB.out | apply below_alloc | apply pw_below_drewN | apply below_drew1) | exact HB.out)) hb); clear HB; have HO204 := n0_; have HO207 := n1_; have HO210 := n2_; have HB := n3_; clear n0_ n1_ n2_ n3_; (try clear hb); (try clear hb2); (try clear hk); (try clear hi); (try clear ho0); (try clear ho1); (try clear ho2)) | ((with_reducible refine gate_dst (N := 11) rfl ?_); refine box_event ?hg (N := 11) ?hd (cs := #[.int .i64 0, .int .i64 0, .slice none 0 0, .slice none 0 0, .slice none 0 0]) (t := 24) ?hr ?_; (case hd => rfl); (case hg => rfl); (case hr => first | (go_simp; done) | (go_simp; rfl)); intro gb212 hg w49 hbox hb; have n0_ := Aside0.mk (Kd.R_below (by (with_reducible repeat (first | apply Kd.R_alloc | apply Kd.R_drewN | apply Kd.R_drew)); exact HO204.out) hb); have n1_ := Aside0.mk (Kd.R_below (by (with_reducible repeat (first | apply Kd.R_alloc | apply Kd.R_drewN | apply Kd.R_drew)); exact HO207.out) hb); have n2_ := Aside0.mk (Kd.R_below (by (with_reducible repeat (first | apply Kd.R_alloc | apply Kd.R_drewN | apply Kd.R_drew)); exact HO210.out) hb); have n3_ := Aside0.mk (below_step (by repeat (first | (with_reducible first | exact HB.out | apply below_alloc | apply pw_below_drewN | apply below_drew1) | exact HB.out)) hb); have n4_ := Aside0.mk (hbox); have n5_ := Aside0.mk ((by rw [hg]; exact (below_size (by repeat (first | (with_reducible first | exact HB.out | apply below_alloc | apply pw_below_drewN | apply below_drew1) | exact HB.out))) : w.heap.size ≤ gb212)); have n6_ := Aside0.mk ((by rw [hg]; exact (below_size (by repeat (first | (with_reducible first | exact HB.out | apply below_alloc | apply pw_below_drewN | apply below_drew1) | exact HB.out))) : w.heap.size ≤ gb212)); clear HO204; clear HO207; clear HO210; clear HB; have HO204 := n0_; have HO207 := n1_; have HO210 := n2_; have HB := n3_; have BK212 := n4_; have GW212 := n5_; have GE212 := n6_; clear n0_ n1_ n2_ n3_ n4_ n5_ n6_; clear hb hbox hg; have hcz50_0 : w49.cell? ⟨gb212, 0, none⟩ = some (.int .i64 0) := (blk_cell BK212.out 0).trans rfl; have hcz50_1 : w49.cell? ⟨gb212, 1, none⟩ = some (.int .i64 0) := (blk_cell BK212.out 1).trans rfl; have hcz50_2 : w49.cell? ⟨gb212, 2, none⟩ = some (.slice none 0 0) := (blk_cell BK212.out 2).trans rfl; have hcz50_3 : w49.cell? ⟨gb212, 3, none⟩ = some (.slice none 0 0) := (blk_cell BK212.out 3).trans rfl; have hcz50_4 : w49.cell? ⟨gb212, 4, none⟩ = some (.slice none 0 0) := (blk_cell BK212.out 4).trans rfl; have hfz50_0 := blk_frozen BK212.out 0; have hfz50_1 := blk_frozen BK212.out 1; have hfz50_2 := blk_frozen BK212.out 2; have hfz50_3 := blk_frozen BK212.out 3; have hfz50_4 := blk_frozen BK212.out 4; obtain ⟨Ao51, co51, eo51⟩ := Kd.R_slice HO204.out; subst eo51; obtain ⟨Ao52, co52, eo52⟩ := Kd.R_slice HO207.out; subst eo52; obtain ⟨Ao53, co53, eo53⟩ := Kd.R_slice HO210.out; subst eo53) | ((with_reducible refine gate_callee (f := 20) rfl ?_); refine goesL_ (some 24) rfl rfl Try.func20 (by kernel_rfl) rfl #[.int .i64 a0, .int .i64 a1] rfl (by (try simp only [List.map_toArray, List.map_cons, List.map_nil]); first | done | rfl | (simp only [List.length_drop, List.length_take]; rfl)) ?_; (with_reducible refine (cutroomref07_Size.calls a0 a1 false _ A7.out).mono ?_); rintro e w' ⟨rfl, ⟨nd, rfl⟩⟩; refine ⟨_, rfl, ?_⟩) | ((with_reducible refine gate_callee (f := 14) rfl ?_); refine goesL_ (some 26) rfl rfl Try.func14 (by kernel_rfl) rfl #[] rfl (by (try simp only [List.map_toArray, List.map_cons, List.map_nil]); first | done | rfl | (simp only [List.length_drop, List.length_take]; rfl)) ?_; (with_reducible refine (cutroomlaw07_awake.calls k  true _ A46.out).mono ?_); rintro e w54 ⟨rfl, hb⟩; refine ⟨_, rfl, ?_⟩; have n0_ := Aside0.mk (Kd.R_below (by (with_reducible repeat (first | apply Kd.R_alloc | apply Kd.R_drewN | apply Kd.R_drew)); exact (Kd.R_mono (Kd.R_far (p := ⟨gb212, 4, none⟩) (Kd.R_far (p := ⟨gb212, 3, none⟩) (Kd.R_far (p := ⟨gb212, 2, none⟩) (Kd.R_far (p := ⟨gb212, 1, none⟩) (Kd.R_far (p := ⟨gb212, 0, none⟩) (Kd.R_types HO204.out BK212.out (by decide)) (fun _ hk => hk.2) (.int .i64 t200)) (fun _ hk => hk.2) (.int .i64 t201)) (fun _ hk => hk.2) (.slice Ao51 t202.length co51)) (fun _ hk => hk.2) (.slice Ao52 t205.length co52)) (fun _ hk => hk.2) (.slice Ao53 t208.length co53)) (fun _ h_ => h_.1))) hb); have n1_ := Aside0.mk (Kd.R_below (by (with_reducible repeat (first | apply Kd.R_alloc | apply Kd.R_drewN | apply Kd.R_drew)); exact (Kd.R_mono (Kd.R_far (p := ⟨gb212, 4, none⟩) (Kd.R_far (p := ⟨gb212, 3, none⟩) (Kd.R_far (p := ⟨gb212, 2, none⟩) (Kd.R_far (p := ⟨gb212, 1, none⟩) (Kd.R_far (p := ⟨gb212, 0, none⟩) (Kd.R_types HO207.out BK212.out (by decide)) (fun _ hk => hk.2) (.int .i64 t200)) (fun _ hk => hk.2) (.int .i64 t201)) (fun _ hk => hk.2) (.slice Ao51 t202.length co51)) (fun _ hk => hk.2) (.slice Ao52 t205.length co52)) (fun _ hk => hk.2) (.slice Ao53 t208.length co53)) (fun _ h_ => h_.1))) hb); have n2_ := Aside0.mk (Kd.R_below (by (with_reducible repeat (first | apply Kd.R_alloc | apply Kd.R_drewN | apply Kd.R_drew)); exact (Kd.R_mono (Kd.R_far (p := ⟨gb212, 4, none⟩) (Kd.R_far (p := ⟨gb212, 3, none⟩) (Kd.R_far (p := ⟨gb212, 2, none⟩) (Kd.R_far (p := ⟨gb212, 1, none⟩) (Kd.R_far (p := ⟨gb212, 0, none⟩) (Kd.R_types HO210.out BK212.out (by decide)) (fun _ hk => hk.2) (.int .i64 t200)) (fun _ hk => hk.2) (.int .i64 t201)) (fun _ hk => hk.2) (.slice Ao51 t202.length co51)) (fun _ hk => hk.2) (.slice Ao52 t205.length co52)) (fun _ hk => hk.2) (.slice Ao53 t208.length co53)) (fun _ h_ => h_.1))) hb); have n3_ := Aside0.mk (blk_below (g := gb212) (o := .cells #[.int .i64 t200, .int .i64 t201, .slice Ao51 t202.length co51, .slice Ao52 t205.length co52, .slice Ao53 t208.length co53] 24 (0, 0)) (by (with_reducible repeat (first | refine blk_drewN ?_ _ | refine blk_drew ?_ | refine blk_alloc ?_ _)); refine blk_put (cs := #[.int .i64 t200, .int .i64 t201, .slice Ao51 t202.length co51, .slice Ao52 t205.length co52, .slice none 0 0]) ?_ 4 _ rfl; (with_reducible repeat (first | refine blk_drewN ?_ _ | refine blk_drew ?_ | refine blk_alloc ?_ _)); refine blk_put (cs := #[.int .i64 t200, .int .i64 t201, .slice Ao51 t202.length co51, .slice none 0 0, .slice none 0 0]) ?_ 3 _ rfl; (with_reducible repeat (first | refine blk_drewN ?_ _ | refine blk_drew ?_ | refine blk_alloc ?_ _)); refine blk_put (cs := #[.int .i64 t200, .int .i64 t201, .slice none 0 0, .slice none 0 0, .slice none 0 0]) ?_ 2 _ rfl; (with_reducible repeat (first | refine blk_drewN ?_ _ | refine blk_drew ?_ | refine blk_alloc ?_ _)); refine blk_put (cs := #[.int .i64 t200, .int .i64 0, .slice none 0 0, .slice none 0 0, .slice none 0 0]) ?_ 1 _ rfl; (with_reducible repeat (first | refine blk_drewN ?_ _ | refine blk_drew ?_ | refine blk_alloc ?_ _)); refine blk_put (cs := #[.int .i64 0, .int .i64 0, .slice none 0 0, .slice none 0 0, .slice none 0 0]) ?_ 0 _ rfl; (with_reducible repeat (first | refine blk_drewN ?_ _ | refine blk_drew ?_ | refine blk_alloc ?_ _)); exact BK212.out) hb); have n4_ := Aside0.mk (below_step (by repeat (first | (with_reducible first | exact HB.out | apply below_alloc | apply pw_below_drewN | apply below_drew1 | refine below_set ?_ GE212.out) | exact HB.out)) hb); clear HO204; clear HO207; clear HO210; clear BK212; clear HB; have HO204 := n0_; have HO207 := n1_; have HO210 := n2_; have BK212 := n3_; have HB := n4_; clear n0_ n1_ n2_ n3_ n4_; (try clear hb); (try clear hb2); (try clear hk); (try clear hi)))
      go_ret
      exact ⟨by first | rfl | (simp [errW_none, errW_some] <;> rfl) | (simp [*, errW_none, errW_some] <;> rfl), by repeat (first | (with_reducible first | exact HB.out | apply below_alloc | apply pw_below_drewN | apply below_drew1 | refine below_set ?_ GE212.out) | exact HB.out)⟩
    · replace c47 := Bool.eq_false_iff.mpr c47
      subst c47
      have H1 : (some false) = some r := by rw [if_neg (show ¬ (false = true) by decide)] at H; exact H
      clear H
      have H := H1
      clear H1
      obtain rfl := Option.some.inj H
      go_enter Try.func4, Try.ntmps4
      go_wp2_with (first | ((with_reducible refine gate_callee (f := 19) rfl ?_); refine goesL_ (some 19) rfl rfl Try.func19 (by kernel_rfl) rfl #[.int .i64 a0, .int .i64 a1, .int .u8 a2, .int .u8 a3, .int .u8 a4] rfl (by (try simp only [List.map_toArray, List.map_cons, List.map_nil]); first | done | rfl | (simp only [List.length_drop, List.length_take]; rfl)) ?_; (with_reducible refine (plane_Flat.calls k a0 a1 a2 a3 a4 t200 t201 t202 t205 t208 t211 _ A6.out).mono ?_); rintro e w55 ⟨v203, v206, v209, rfl, ho0, ho1, ho2, hb⟩; refine ⟨_, rfl, ?_⟩; have n0_ := Aside0.mk (Kd.R_lower ho0 (below_size (by repeat (first | (with_reducible first | exact HB.out | apply below_alloc | apply pw_below_drewN | apply below_drew1) | exact HB.out)))); have n1_ := Aside0.mk (Kd.R_lower ho1 (below_size (by repeat (first | (with_reducible first | exact HB.out | apply below_alloc | apply pw_below_drewN | apply below_drew1) | exact HB.out)))); have n2_ := Aside0.mk (Kd.R_lower ho2 (below_size (by repeat (first | (with_reducible first | exact HB.out | apply below_alloc | apply pw_below_drewN | apply below_drew1) | exact HB.out)))); have n3_ := Aside0.mk (below_step (by repeat (first | (with_reducible first | exact HB.out | apply below_alloc | apply pw_below_drewN | apply below_drew1) | exact HB.out)) hb); clear HB; have HO204 := n0_; have HO207 := n1_; have HO210 := n2_; have HB := n3_; clear n0_ n1_ n2_ n3_; (try clear hb); (try clear hb2); (try clear hk); (try clear hi); (try clear ho0); (try clear ho1); (try clear ho2)) | ((with_reducible refine gate_dst (N := 11) rfl ?_); refine box_event ?hg (N := 11) ?hd (cs := #[.int .i64 0, .int .i64 0, .slice none 0 0, .slice none 0 0, .slice none 0 0]) (t := 24) ?hr ?_; (case hd => rfl); (case hg => rfl); (case hr => first | (go_simp; done) | (go_simp; rfl)); intro gb212 hg w56 hbox hb; have n0_ := Aside0.mk (Kd.R_below (by (with_reducible repeat (first | apply Kd.R_alloc | apply Kd.R_drewN | apply Kd.R_drew)); exact HO204.out) hb); have n1_ := Aside0.mk (Kd.R_below (by (with_reducible repeat (first | apply Kd.R_alloc | apply Kd.R_drewN | apply Kd.R_drew)); exact HO207.out) hb); have n2_ := Aside0.mk (Kd.R_below (by (with_reducible repeat (first | apply Kd.R_alloc | apply Kd.R_drewN | apply Kd.R_drew)); exact HO210.out) hb); have n3_ := Aside0.mk (below_step (by repeat (first | (with_reducible first | exact HB.out | apply below_alloc | apply pw_below_drewN | apply below_drew1) | exact HB.out)) hb); have n4_ := Aside0.mk (hbox); have n5_ := Aside0.mk ((by rw [hg]; exact (below_size (by repeat (first | (with_reducible first | exact HB.out | apply below_alloc | apply pw_below_drewN | apply below_drew1) | exact HB.out))) : w.heap.size ≤ gb212)); have n6_ := Aside0.mk ((by rw [hg]; exact (below_size (by repeat (first | (with_reducible first | exact HB.out | apply below_alloc | apply pw_below_drewN | apply below_drew1) | exact HB.out))) : w.heap.size ≤ gb212)); clear HO204; clear HO207; clear HO210; clear HB; have HO204 := n0_; have HO207 := n1_; have HO210 := n2_; have HB := n3_; have BK212 := n4_; have GW212 := n5_; have GE212 := n6_; clear n0_ n1_ n2_ n3_ n4_ n5_ n6_; clear hb hbox hg; have hcz57_0 : w56.cell? ⟨gb212, 0, none⟩ = some (.int .i64 0) := (blk_cell BK212.out 0).trans rfl; have hcz57_1 : w56.cell? ⟨gb212, 1, none⟩ = some (.int .i64 0) := (blk_cell BK212.out 1).trans rfl; have hcz57_2 : w56.cell? ⟨gb212, 2, none⟩ = some (.slice none 0 0) := (blk_cell BK212.out 2).trans rfl; have hcz57_3 : w56.cell? ⟨gb212, 3, none⟩ = some (.slice none 0 0) := (blk_cell BK212.out 3).trans rfl; have hcz57_4 : w56.cell? ⟨gb212, 4, none⟩ = some (.slice none 0 0) := (blk_cell BK212.out 4).trans rfl; have hfz57_0 := blk_frozen BK212.out 0; have hfz57_1 := blk_frozen BK212.out 1; have hfz57_2 := blk_frozen BK212.out 2; have hfz57_3 := blk_frozen BK212.out 3; have hfz57_4 := blk_frozen BK212.out 4; obtain ⟨Ao58, co58, eo58⟩ := Kd.R_slice HO204.out; subst eo58; obtain ⟨Ao59, co59, eo59⟩ := Kd.R_slice HO207.out; subst eo59; obtain ⟨Ao60, co60, eo60⟩ := Kd.R_slice HO210.out; subst eo60) | ((with_reducible refine gate_callee (f := 20) rfl ?_); refine goesL_ (some 24) rfl rfl Try.func20 (by kernel_rfl) rfl #[.int .i64 a0, .int .i64 a1] rfl (by (try simp only [List.map_toArray, List.map_cons, List.map_nil]); first | done | rfl | (simp only [List.length_drop, List.length_take]; rfl)) ?_; (with_reducible refine (cutroomref07_Size.calls a0 a1 false _ A7.out).mono ?_); rintro e w' ⟨rfl, ⟨nd, rfl⟩⟩; refine ⟨_, rfl, ?_⟩) | ((with_reducible refine gate_callee (f := 14) rfl ?_); refine goesL_ (some 26) rfl rfl Try.func14 (by kernel_rfl) rfl #[] rfl (by (try simp only [List.map_toArray, List.map_cons, List.map_nil]); first | done | rfl | (simp only [List.length_drop, List.length_take]; rfl)) ?_; (with_reducible refine (cutroomlaw07_awake.calls k  false _ A46.out).mono ?_); rintro e w61 ⟨rfl, hb⟩; refine ⟨_, rfl, ?_⟩; have n0_ := Aside0.mk (Kd.R_below (by (with_reducible repeat (first | apply Kd.R_alloc | apply Kd.R_drewN | apply Kd.R_drew)); exact (Kd.R_mono (Kd.R_far (p := ⟨gb212, 4, none⟩) (Kd.R_far (p := ⟨gb212, 3, none⟩) (Kd.R_far (p := ⟨gb212, 2, none⟩) (Kd.R_far (p := ⟨gb212, 1, none⟩) (Kd.R_far (p := ⟨gb212, 0, none⟩) (Kd.R_types HO204.out BK212.out (by decide)) (fun _ hk => hk.2) (.int .i64 t200)) (fun _ hk => hk.2) (.int .i64 t201)) (fun _ hk => hk.2) (.slice Ao58 t202.length co58)) (fun _ hk => hk.2) (.slice Ao59 t205.length co59)) (fun _ hk => hk.2) (.slice Ao60 t208.length co60)) (fun _ h_ => h_.1))) hb); have n1_ := Aside0.mk (Kd.R_below (by (with_reducible repeat (first | apply Kd.R_alloc | apply Kd.R_drewN | apply Kd.R_drew)); exact (Kd.R_mono (Kd.R_far (p := ⟨gb212, 4, none⟩) (Kd.R_far (p := ⟨gb212, 3, none⟩) (Kd.R_far (p := ⟨gb212, 2, none⟩) (Kd.R_far (p := ⟨gb212, 1, none⟩) (Kd.R_far (p := ⟨gb212, 0, none⟩) (Kd.R_types HO207.out BK212.out (by decide)) (fun _ hk => hk.2) (.int .i64 t200)) (fun _ hk => hk.2) (.int .i64 t201)) (fun _ hk => hk.2) (.slice Ao58 t202.length co58)) (fun _ hk => hk.2) (.slice Ao59 t205.length co59)) (fun _ hk => hk.2) (.slice Ao60 t208.length co60)) (fun _ h_ => h_.1))) hb); have n2_ := Aside0.mk (Kd.R_below (by (with_reducible repeat (first | apply Kd.R_alloc | apply Kd.R_drewN | apply Kd.R_drew)); exact (Kd.R_mono (Kd.R_far (p := ⟨gb212, 4, none⟩) (Kd.R_far (p := ⟨gb212, 3, none⟩) (Kd.R_far (p := ⟨gb212, 2, none⟩) (Kd.R_far (p := ⟨gb212, 1, none⟩) (Kd.R_far (p := ⟨gb212, 0, none⟩) (Kd.R_types HO210.out BK212.out (by decide)) (fun _ hk => hk.2) (.int .i64 t200)) (fun _ hk => hk.2) (.int .i64 t201)) (fun _ hk => hk.2) (.slice Ao58 t202.length co58)) (fun _ hk => hk.2) (.slice Ao59 t205.length co59)) (fun _ hk => hk.2) (.slice Ao60 t208.length co60)) (fun _ h_ => h_.1))) hb); have n3_ := Aside0.mk (blk_below (g := gb212) (o := .cells #[.int .i64 t200, .int .i64 t201, .slice Ao58 t202.length co58, .slice Ao59 t205.length co59, .slice Ao60 t208.length co60] 24 (0, 0)) (by (with_reducible repeat (first | refine blk_drewN ?_ _ | refine blk_drew ?_ | refine blk_alloc ?_ _)); refine blk_put (cs := #[.int .i64 t200, .int .i64 t201, .slice Ao58 t202.length co58, .slice Ao59 t205.length co59, .slice none 0 0]) ?_ 4 _ rfl; (with_reducible repeat (first | refine blk_drewN ?_ _ | refine blk_drew ?_ | refine blk_alloc ?_ _)); refine blk_put (cs := #[.int .i64 t200, .int .i64 t201, .slice Ao58 t202.length co58, .slice none 0 0, .slice none 0 0]) ?_ 3 _ rfl; (with_reducible repeat (first | refine blk_drewN ?_ _ | refine blk_drew ?_ | refine blk_alloc ?_ _)); refine blk_put (cs := #[.int .i64 t200, .int .i64 t201, .slice none 0 0, .slice none 0 0, .slice none 0 0]) ?_ 2 _ rfl; (with_reducible repeat (first | refine blk_drewN ?_ _ | refine blk_drew ?_ | refine blk_alloc ?_ _)); refine blk_put (cs := #[.int .i64 t200, .int .i64 0, .slice none 0 0, .slice none 0 0, .slice none 0 0]) ?_ 1 _ rfl; (with_reducible repeat (first | refine blk_drewN ?_ _ | refine blk_drew ?_ | refine blk_alloc ?_ _)); refine blk_put (cs := #[.int .i64 0, .int .i64 0, .slice none 0 0, .slice none 0 0, .slice none 0 0]) ?_ 0 _ rfl; (with_reducible repeat (first | refine blk_drewN ?_ _ | refine blk_drew ?_ | refine blk_alloc ?_ _)); exact BK212.out) hb); have n4_ := Aside0.mk (below_step (by repeat (first | (with_reducible first | exact HB.out | apply below_alloc | apply pw_below_drewN | apply below_drew1 | refine below_set ?_ GE212.out) | exact HB.out)) hb); clear HO204; clear HO207; clear HO210; clear BK212; clear HB; have HO204 := n0_; have HO207 := n1_; have HO210 := n2_; have BK212 := n3_; have HB := n4_; clear n0_ n1_ n2_ n3_ n4_; (try clear hb); (try clear hb2); (try clear hk); (try clear hi)))
      go_ret
      exact ⟨by first | rfl | (simp [errW_none, errW_some] <;> rfl) | (simp [*, errW_none, errW_some] <;> rfl), by repeat (first | (with_reducible first | exact HB.out | apply below_alloc | apply pw_below_drewN | apply below_drew1 | refine below_set ?_ GE212.out) | exact HB.out)⟩

/-- THE ONE PURE STATEMENT of cutroomlaw07_PlaneFlat: yours. -/
def cutroomlaw07_PlaneFlat.Pure : Prop := ∀ (a0 : Int) (a1 : Int) (a2 : Int) (a3 : Int) (a4 : Int), (Lit.int .i64 a0).wf = true → (Lit.int .i64 a1).wf = true → (Lit.int .u8 a2).wf = true → (Lit.int .u8 a3).wf = true → (Lit.int .u8 a4).wf = true → ∃ k, cutroomlaw07_PlaneFlat.f k a0 a1 a2 a3 a4 = some true
theorem cutroomlaw07_PlaneFlat.walk (P : cutroomlaw07_PlaneFlat.Pure) (a0 : Int) (a1 : Int) (a2 : Int) (a3 : Int) (a4 : Int) (w : World) (w0 : (Lit.int .i64 a0).wf = true) (w1 : (Lit.int .i64 a1).wf = true) (w2 : (Lit.int .u8 a2).wf = true) (w3 : (Lit.int .u8 a3).wf = true) (w4 : (Lit.int .u8 a4).wf = true) :
    Calls Try.prog 4 #[.int .i64 a0, .int .i64 a1, .int .u8 a2, .int .u8 a3, .int .u8 a4] w fun e w' => e = .returned (.bool true) ∧ Below w.heap.size w w' := by
  obtain ⟨k, h⟩ := P a0 a1 a2 a3 a4 w0 w1 w2 w3 w4
  refine (cutroomlaw07_PlaneFlat.calls k a0 a1 a2 a3 a4 true w h).mono ?_
  rintro e w' ⟨rfl, hd⟩
  exact ⟨rfl, hd⟩

end Go.Proofs.Ytalnnbokmpppjaa.PPlaneFlat
