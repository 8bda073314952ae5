-- Written by a program of this session, after the form of the kit's print; each text is checked by Lean alone.
import Derived.Test.YtnihjbcdlgfklaaPMotionPredictsx0
namespace Go.Proofs.Ytnihjbcdlgfklaa.PMotionPredicts
open Go.RowKit Go.Proofs.YtnihjbcdlgfklaaW.PrintWords Go.Proofs.YtnihjbcdlgfklaaW.PrintLast Go.Proofs.YtnihjbcdlgfklaaW.PrintMore
attribute [local go_sem] max2_int min2_int max_two min_two max_three min_three max_four min_four   -- for this text's walks alone
set_option linter.unusedVariables false
set_option linter.unusedSimpArgs false

/-! ### cutroomref07_Formed: function 27 -/
def cutroomref07_Formed.f (a0_0 : Int) (a0_1 : Int) (l0_2 : List Int) (l0_3 : List Int) (l0_4 : List Int) : Option (Bool) := if a0_0 < 2 then (some false) else (if a0_0 > 64 then (some false) else (if (Int.tmod a0_0 2) = 0 then (if a0_1 < 2 then (some false) else (if a0_1 > 64 then (some false) else (if (Int.tmod a0_1 2) = 0 then (if (l0_2.length : Int) = (wrap64 (a0_0 * a0_1)) then (if (l0_3.length : Int) = (wrap64 ((wrap64 (Int.tdiv a0_0 2)) * (wrap64 (Int.tdiv a0_1 2)))) then (some ((l0_4.length : Int) == (wrap64 ((wrap64 (Int.tdiv a0_0 2)) * (wrap64 (Int.tdiv a0_1 2)))))) else (some false)) else (some false)) else (some false)))) else (some false)))
set_option maxHeartbeats 8000000 in
set_option maxRecDepth 100000 in
theorem cutroomref07_Formed.calls (a0_0 : Int) (a0_1 : Int) (A0_2 : Option Addr) (c0_2 : Nat) (l0_2 : List Int) (A0_3 : Option Addr) (c0_3 : Nat) (l0_3 : List Int) (A0_4 : Option Addr) (c0_4 : Nat) (l0_4 : List Int) (r : Bool) (w : World) (hr0_2 : Kd.C (Kd.int .u8) w A0_2 l0_2.length l0_2) (hc0_2 : l0_2.length ≤ c0_2) (hr0_3 : Kd.C (Kd.int .u8) w A0_3 l0_3.length l0_3) (hc0_3 : l0_3.length ≤ c0_3) (hr0_4 : Kd.C (Kd.int .u8) w A0_4 l0_4.length l0_4) (hc0_4 : l0_4.length ≤ c0_4) (h : cutroomref07_Formed.f a0_0 a0_1 l0_2 l0_3 l0_4 = some r) :
    Calls Try.prog 27 #[.agg #[.int .i64 a0_0, .int .i64 a0_1, .slice A0_2 l0_2.length c0_2, .slice A0_3 l0_3.length c0_3, .slice A0_4 l0_4.length c0_4]] w fun e w' => e = .returned (.bool r) ∧ Below w.heap.size w w' := by
  have hu24 := Try.underlying24
  have HR0_2 := Aside0.mk hr0_2
  have HC0_2 := Aside0.mk hc0_2
  clear hr0_2 hc0_2
  have HR0_3 := Aside0.mk hr0_3
  have HC0_3 := Aside0.mk hc0_3
  clear hr0_3 hc0_3
  have HR0_4 := Aside0.mk hr0_4
  have HC0_4 := Aside0.mk hc0_4
  clear hr0_4 hc0_4
  have HB := Aside0.mk (Below.refl w.heap.size w)
  have H : (if a0_0 < 2 then (some false) else (if a0_0 > 64 then (some false) else (if (Int.tmod a0_0 2) = 0 then (if a0_1 < 2 then (some false) else (if a0_1 > 64 then (some false) else (if (Int.tmod a0_1 2) = 0 then (if (l0_2.length : Int) = (wrap64 (a0_0 * a0_1)) then (if (l0_3.length : Int) = (wrap64 ((wrap64 (Int.tdiv a0_0 2)) * (wrap64 (Int.tdiv a0_1 2)))) then (some ((l0_4.length : Int) == (wrap64 ((wrap64 (Int.tdiv a0_0 2)) * (wrap64 (Int.tdiv a0_1 2)))))) else (some false)) else (some false)) else (some false)))) else (some false)))) = some r := h
  clear h
  by_cases c2 : a0_0 < 2
  · rw [if_pos c2] at H
    have c2b0 : decide (a0_0 < 2) = true := decide_eq_true c2
    clear c2
    obtain rfl := Option.some.inj H
    go_enter Try.func27, Try.ntmps27
    go_wp2_with (first | ((with_reducible refine gate_dst (N := 1) rfl ?_); (try (refine gate_guard (by rfl) ?_; dsimp only)); refine box_event ?hg (N := 1) ?hd (cs := #[.int .i64 a0_0, .int .i64 a0_1, .slice A0_2 l0_2.length c0_2, .slice A0_3 l0_3.length c0_3, .slice A0_4 l0_4.length c0_4]) (t := 24) ?hr ?_; (case hd => rfl); (case hg => rfl); (case hr => first | (go_simp; done) | (go_simp; rfl)); intro gb233 hg w3 hbox hb; have n0_ := Aside0.mk (below_step (by repeat (first | (with_reducible first | exact HB.out | apply below_alloc | apply pw_below_drewN | apply below_drew1) | exact HB.out)) hb); have n1_ := Aside0.mk (hbox); have n2_ := Aside0.mk ((by rw [hg]; exact (below_size (by repeat (first | (with_reducible first | exact HB.out | apply below_alloc | apply pw_below_drewN | apply below_drew1) | exact HB.out))) : w.heap.size ≤ gb233)); have n3_ := Aside0.mk ((by rw [hg]; exact (below_size (by repeat (first | (with_reducible first | exact HB.out | apply below_alloc | apply pw_below_drewN | apply below_drew1) | exact HB.out))) : w.heap.size ≤ gb233)); clear HB; have HB := n0_; have BK233 := n1_; have GW233 := n2_; have GE233 := n3_; clear n0_ n1_ n2_ n3_; clear hb hbox hg; have hcz4_0 : w3.cell? ⟨gb233, 0, none⟩ = some (.int .i64 a0_0) := (blk_cell BK233.out 0).trans rfl; have hcz4_1 : w3.cell? ⟨gb233, 1, none⟩ = some (.int .i64 a0_1) := (blk_cell BK233.out 1).trans rfl; have hcz4_2 : w3.cell? ⟨gb233, 2, none⟩ = some (.slice A0_2 l0_2.length c0_2) := (blk_cell BK233.out 2).trans rfl; have hcz4_3 : w3.cell? ⟨gb233, 3, none⟩ = some (.slice A0_3 l0_3.length c0_3) := (blk_cell BK233.out 3).trans rfl; have hcz4_4 : w3.cell? ⟨gb233, 4, none⟩ = some (.slice A0_4 l0_4.length c0_4) := (blk_cell BK233.out 4).trans rfl; have hfz4_0 := blk_frozen BK233.out 0; have hfz4_1 := blk_frozen BK233.out 1; have hfz4_2 := blk_frozen BK233.out 2; have hfz4_3 := blk_frozen BK233.out 3; have hfz4_4 := blk_frozen BK233.out 4))
    go_ret
    exact ⟨by first | rfl | (simp [errW_none, errW_some] <;> rfl) | (simp [*, errW_none, errW_some] <;> rfl), by repeat (first | (with_reducible first | exact HB.out | apply below_alloc | apply pw_below_drewN | apply below_drew1 | refine below_set ?_ GE233.out) | exact HB.out)⟩
  · rw [if_neg c2] at H
    have c2b0 : decide (a0_0 < 2) = false := decide_eq_false c2
    clear c2
    by_cases c5 : a0_0 > 64
    · rw [if_pos c5] at H
      have c5b0 : decide (64 < a0_0) = true := decide_eq_true c5
      clear c5
      obtain rfl := Option.some.inj H
      go_enter Try.func27, Try.ntmps27
      go_wp2_with (first | ((with_reducible refine gate_dst (N := 1) rfl ?_); (try (refine gate_guard (by rfl) ?_; dsimp only)); refine box_event ?hg (N := 1) ?hd (cs := #[.int .i64 a0_0, .int .i64 a0_1, .slice A0_2 l0_2.length c0_2, .slice A0_3 l0_3.length c0_3, .slice A0_4 l0_4.length c0_4]) (t := 24) ?hr ?_; (case hd => rfl); (case hg => rfl); (case hr => first | (go_simp; done) | (go_simp; rfl)); intro gb233 hg w6 hbox hb; have n0_ := Aside0.mk (below_step (by repeat (first | (with_reducible first | exact HB.out | apply below_alloc | apply pw_below_drewN | apply below_drew1) | exact HB.out)) hb); have n1_ := Aside0.mk (hbox); have n2_ := Aside0.mk ((by rw [hg]; exact (below_size (by repeat (first | (with_reducible first | exact HB.out | apply below_alloc | apply pw_below_drewN | apply below_drew1) | exact HB.out))) : w.heap.size ≤ gb233)); have n3_ := Aside0.mk ((by rw [hg]; exact (below_size (by repeat (first | (with_reducible first | exact HB.out | apply below_alloc | apply pw_below_drewN | apply below_drew1) | exact HB.out))) : w.heap.size ≤ gb233)); clear HB; have HB := n0_; have BK233 := n1_; have GW233 := n2_; have GE233 := n3_; clear n0_ n1_ n2_ n3_; clear hb hbox hg; have hcz7_0 : w6.cell? ⟨gb233, 0, none⟩ = some (.int .i64 a0_0) := (blk_cell BK233.out 0).trans rfl; have hcz7_1 : w6.cell? ⟨gb233, 1, none⟩ = some (.int .i64 a0_1) := (blk_cell BK233.out 1).trans rfl; have hcz7_2 : w6.cell? ⟨gb233, 2, none⟩ = some (.slice A0_2 l0_2.length c0_2) := (blk_cell BK233.out 2).trans rfl; have hcz7_3 : w6.cell? ⟨gb233, 3, none⟩ = some (.slice A0_3 l0_3.length c0_3) := (blk_cell BK233.out 3).trans rfl; have hcz7_4 : w6.cell? ⟨gb233, 4, none⟩ = some (.slice A0_4 l0_4.length c0_4) := (blk_cell BK233.out 4).trans rfl; have hfz7_0 := blk_frozen BK233.out 0; have hfz7_1 := blk_frozen BK233.out 1; have hfz7_2 := blk_frozen BK233.out 2; have hfz7_3 := blk_frozen BK233.out 3; have hfz7_4 := blk_frozen BK233.out 4))
      go_ret
      exact ⟨by first | rfl | (simp [errW_none, errW_some] <;> rfl) | (simp [*, errW_none, errW_some] <;> rfl), by repeat (first | (with_reducible first | exact HB.out | apply below_alloc | apply pw_below_drewN | apply below_drew1 | refine below_set ?_ GE233.out) | exact HB.out)⟩
    · rw [if_neg c5] at H
      have c5b0 : decide (64 < a0_0) = false := decide_eq_false c5
      clear c5
      by_cases c8 : (Int.tmod a0_0 2) = 0
      · rw [if_pos c8] at H
        have c8b0 : ((Int.tmod a0_0 2) == 0) = true := beq_iff_eq.mpr c8
        have c8b1 : ((Int.tmod a0_0 2) != 0) = false := bne_eq_false_iff_eq.mpr c8
        clear c8
        by_cases c9 : a0_1 < 2
        · rw [if_pos c9] at H
          have c9b0 : decide (a0_1 < 2) = true := decide_eq_true c9
          clear c9
          obtain rfl := Option.some.inj H
          go_enter Try.func27, Try.ntmps27
          go_wp2_with (first | ((with_reducible refine gate_dst (N := 1) rfl ?_); (try (refine gate_guard (by rfl) ?_; dsimp only)); refine box_event ?hg (N := 1) ?hd (cs := #[.int .i64 a0_0, .int .i64 a0_1, .slice A0_2 l0_2.length c0_2, .slice A0_3 l0_3.length c0_3, .slice A0_4 l0_4.length c0_4]) (t := 24) ?hr ?_; (case hd => rfl); (case hg => rfl); (case hr => first | (go_simp; done) | (go_simp; rfl)); intro gb233 hg w10 hbox hb; have n0_ := Aside0.mk (below_step (by repeat (first | (with_reducible first | exact HB.out | apply below_alloc | apply pw_below_drewN | apply below_drew1) | exact HB.out)) hb); have n1_ := Aside0.mk (hbox); have n2_ := Aside0.mk ((by rw [hg]; exact (below_size (by repeat (first | (with_reducible first | exact HB.out | apply below_alloc | apply pw_below_drewN | apply below_drew1) | exact HB.out))) : w.heap.size ≤ gb233)); have n3_ := Aside0.mk ((by rw [hg]; exact (below_size (by repeat (first | (with_reducible first | exact HB.out | apply below_alloc | apply pw_below_drewN | apply below_drew1) | exact HB.out))) : w.heap.size ≤ gb233)); clear HB; have HB := n0_; have BK233 := n1_; have GW233 := n2_; have GE233 := n3_; clear n0_ n1_ n2_ n3_; clear hb hbox hg; have hcz11_0 : w10.cell? ⟨gb233, 0, none⟩ = some (.int .i64 a0_0) := (blk_cell BK233.out 0).trans rfl; have hcz11_1 : w10.cell? ⟨gb233, 1, none⟩ = some (.int .i64 a0_1) := (blk_cell BK233.out 1).trans rfl; have hcz11_2 : w10.cell? ⟨gb233, 2, none⟩ = some (.slice A0_2 l0_2.length c0_2) := (blk_cell BK233.out 2).trans rfl; have hcz11_3 : w10.cell? ⟨gb233, 3, none⟩ = some (.slice A0_3 l0_3.length c0_3) := (blk_cell BK233.out 3).trans rfl; have hcz11_4 : w10.cell? ⟨gb233, 4, none⟩ = some (.slice A0_4 l0_4.length c0_4) := (blk_cell BK233.out 4).trans rfl; have hfz11_0 := blk_frozen BK233.out 0; have hfz11_1 := blk_frozen BK233.out 1; have hfz11_2 := blk_frozen BK233.out 2; have hfz11_3 := blk_frozen BK233.out 3; have hfz11_4 := blk_frozen BK233.out 4))
          go_ret
          exact ⟨by first | rfl | (simp [errW_none, errW_some] <;> rfl) | (simp [*, errW_none, errW_some] <;> rfl), by repeat (first | (with_reducible first | exact HB.out | apply below_alloc | apply pw_below_drewN | apply below_drew1 | refine below_set ?_ GE233.out) | exact HB.out)⟩
        · rw [if_neg c9] at H
          have c9b0 : decide (a0_1 < 2) = false := decide_eq_false c9
          clear c9
          by_cases c12 : a0_1 > 64
          · rw [if_pos c12] at H
            have c12b0 : decide (64 < a0_1) = true := decide_eq_true c12
            clear c12
            obtain rfl := Option.some.inj H
            go_enter Try.func27, Try.ntmps27
            go_wp2_with (first | ((with_reducible refine gate_dst (N := 1) rfl ?_); (try (refine gate_guard (by rfl) ?_; dsimp only)); refine box_event ?hg (N := 1) ?hd (cs := #[.int .i64 a0_0, .int .i64 a0_1, .slice A0_2 l0_2.length c0_2, .slice A0_3 l0_3.length c0_3, .slice A0_4 l0_4.length c0_4]) (t := 24) ?hr ?_; (case hd => rfl); (case hg => rfl); (case hr => first | (go_simp; done) | (go_simp; rfl)); intro gb233 hg w13 hbox hb; have n0_ := Aside0.mk (below_step (by repeat (first | (with_reducible first | exact HB.out | apply below_alloc | apply pw_below_drewN | apply below_drew1) | exact HB.out)) hb); have n1_ := Aside0.mk (hbox); have n2_ := Aside0.mk ((by rw [hg]; exact (below_size (by repeat (first | (with_reducible first | exact HB.out | apply below_alloc | apply pw_below_drewN | apply below_drew1) | exact HB.out))) : w.heap.size ≤ gb233)); have n3_ := Aside0.mk ((by rw [hg]; exact (below_size (by repeat (first | (with_reducible first | exact HB.out | apply below_alloc | apply pw_below_drewN | apply below_drew1) | exact HB.out))) : w.heap.size ≤ gb233)); clear HB; have HB := n0_; have BK233 := n1_; have GW233 := n2_; have GE233 := n3_; clear n0_ n1_ n2_ n3_; clear hb hbox hg; have hcz14_0 : w13.cell? ⟨gb233, 0, none⟩ = some (.int .i64 a0_0) := (blk_cell BK233.out 0).trans rfl; have hcz14_1 : w13.cell? ⟨gb233, 1, none⟩ = some (.int .i64 a0_1) := (blk_cell BK233.out 1).trans rfl; have hcz14_2 : w13.cell? ⟨gb233, 2, none⟩ = some (.slice A0_2 l0_2.length c0_2) := (blk_cell BK233.out 2).trans rfl; have hcz14_3 : w13.cell? ⟨gb233, 3, none⟩ = some (.slice A0_3 l0_3.length c0_3) := (blk_cell BK233.out 3).trans rfl; have hcz14_4 : w13.cell? ⟨gb233, 4, none⟩ = some (.slice A0_4 l0_4.length c0_4) := (blk_cell BK233.out 4).trans rfl; have hfz14_0 := blk_frozen BK233.out 0; have hfz14_1 := blk_frozen BK233.out 1; have hfz14_2 := blk_frozen BK233.out 2; have hfz14_3 := blk_frozen BK233.out 3; have hfz14_4 := blk_frozen BK233.out 4))
            go_ret
            exact ⟨by first | rfl | (simp [errW_none, errW_some] <;> rfl) | (simp [*, errW_none, errW_some] <;> rfl), by repeat (first | (with_reducible first | exact HB.out | apply below_alloc | apply pw_below_drewN | apply below_drew1 | refine below_set ?_ GE233.out) | exact HB.out)⟩
          · rw [if_neg c12] at H
            have c12b0 : decide (64 < a0_1) = false := decide_eq_false c12
            clear c12
            by_cases c15 : (Int.tmod a0_1 2) = 0
            · rw [if_pos c15] at H
              have c15b0 : ((Int.tmod a0_1 2) == 0) = true := beq_iff_eq.mpr c15
              have c15b1 : ((Int.tmod a0_1 2) != 0) = false := bne_eq_false_iff_eq.mpr c15
              clear c15
              by_cases c16 : (l0_2.length : Int) = (wrap64 (a0_0 * a0_1))
              · rw [if_pos c16] at H
                have c16b0 : ((l0_2.length : Int) == (wrap64 (a0_0 * a0_1))) = true := beq_iff_eq.mpr c16
                have c16b1 : ((l0_2.length : Int) != (wrap64 (a0_0 * a0_1))) = false := bne_eq_false_iff_eq.mpr c16
                clear c16
                by_cases c17 : (l0_3.length : Int) = (wrap64 ((wrap64 (Int.tdiv a0_0 2)) * (wrap64 (Int.tdiv a0_1 2))))
                · rw [if_pos c17] at H
                  have c17b0 : ((l0_3.length : Int) == (wrap64 ((wrap64 (Int.tdiv a0_0 2)) * (wrap64 (Int.tdiv a0_1 2))))) = true := beq_iff_eq.mpr c17
                  have c17b1 : ((l0_3.length : Int) != (wrap64 ((wrap64 (Int.tdiv a0_0 2)) * (wrap64 (Int.tdiv a0_1 2))))) = false := bne_eq_false_iff_eq.mpr c17
                  clear c17
                  obtain rfl := Option.some.inj H
                  go_enter Try.func27, Try.ntmps27
                  go_wp2_with (first | ((with_reducible refine gate_dst (N := 1) rfl ?_); (try (refine gate_guard (by rfl) ?_; dsimp only)); refine box_event ?hg (N := 1) ?hd (cs := #[.int .i64 a0_0, .int .i64 a0_1, .slice A0_2 l0_2.length c0_2, .slice A0_3 l0_3.length c0_3, .slice A0_4 l0_4.length c0_4]) (t := 24) ?hr ?_; (case hd => rfl); (case hg => rfl); (case hr => first | (go_simp; done) | (go_simp; rfl)); intro gb233 hg w18 hbox hb; have n0_ := Aside0.mk (below_step (by repeat (first | (with_reducible first | exact HB.out | apply below_alloc | apply pw_below_drewN | apply below_drew1) | exact HB.out)) hb); have n1_ := Aside0.mk (hbox); have n2_ := Aside0.mk ((by rw [hg]; exact (below_size (by repeat (first | (with_reducible first | exact HB.out | apply below_alloc | apply pw_below_drewN | apply below_drew1) | exact HB.out))) : w.heap.size ≤ gb233)); have n3_ := Aside0.mk ((by rw [hg]; exact (below_size (by repeat (first | (with_reducible first | exact HB.out | apply below_alloc | apply pw_below_drewN | apply below_drew1) | exact HB.out))) : w.heap.size ≤ gb233)); clear HB; have HB := n0_; have BK233 := n1_; have GW233 := n2_; have GE233 := n3_; clear n0_ n1_ n2_ n3_; clear hb hbox hg; have hcz19_0 : w18.cell? ⟨gb233, 0, none⟩ = some (.int .i64 a0_0) := (blk_cell BK233.out 0).trans rfl; have hcz19_1 : w18.cell? ⟨gb233, 1, none⟩ = some (.int .i64 a0_1) := (blk_cell BK233.out 1).trans rfl; have hcz19_2 : w18.cell? ⟨gb233, 2, none⟩ = some (.slice A0_2 l0_2.length c0_2) := (blk_cell BK233.out 2).trans rfl; have hcz19_3 : w18.cell? ⟨gb233, 3, none⟩ = some (.slice A0_3 l0_3.length c0_3) := (blk_cell BK233.out 3).trans rfl; have hcz19_4 : w18.cell? ⟨gb233, 4, none⟩ = some (.slice A0_4 l0_4.length c0_4) := (blk_cell BK233.out 4).trans rfl; have hfz19_0 := blk_frozen BK233.out 0; have hfz19_1 := blk_frozen BK233.out 1; have hfz19_2 := blk_frozen BK233.out 2; have hfz19_3 := blk_frozen BK233.out 3; have hfz19_4 := blk_frozen BK233.out 4))
                  go_ret
                  exact ⟨by first | rfl | (simp [errW_none, errW_some] <;> rfl) | (simp [*, errW_none, errW_some] <;> rfl), by repeat (first | (with_reducible first | exact HB.out | apply below_alloc | apply pw_below_drewN | apply below_drew1 | refine below_set ?_ GE233.out) | exact HB.out)⟩
                · rw [if_neg c17] at H
                  have c17b0 : ((l0_3.length : Int) == (wrap64 ((wrap64 (Int.tdiv a0_0 2)) * (wrap64 (Int.tdiv a0_1 2))))) = false := beq_eq_false_iff_ne.mpr c17
                  have c17b1 : ((l0_3.length : Int) != (wrap64 ((wrap64 (Int.tdiv a0_0 2)) * (wrap64 (Int.tdiv a0_1 2))))) = true := bne_iff_ne.mpr c17
                  obtain rfl := Option.some.inj H
                  go_enter Try.func27, Try.ntmps27
                  go_wp2_with (first | ((with_reducible refine gate_dst (N := 1) rfl ?_); (try (refine gate_guard (by rfl) ?_; dsimp only)); refine box_event ?hg (N := 1) ?hd (cs := #[.int .i64 a0_0, .int .i64 a0_1, .slice A0_2 l0_2.length c0_2, .slice A0_3 l0_3.length c0_3, .slice A0_4 l0_4.length c0_4]) (t := 24) ?hr ?_; (case hd => rfl); (case hg => rfl); (case hr => first | (go_simp; done) | (go_simp; rfl)); intro gb233 hg w20 hbox hb; have n0_ := Aside0.mk (below_step (by repeat (first | (with_reducible first | exact HB.out | apply below_alloc | apply pw_below_drewN | apply below_drew1) | exact HB.out)) hb); have n1_ := Aside0.mk (hbox); have n2_ := Aside0.mk ((by rw [hg]; exact (below_size (by repeat (first | (with_reducible first | exact HB.out | apply below_alloc | apply pw_below_drewN | apply below_drew1) | exact HB.out))) : w.heap.size ≤ gb233)); have n3_ := Aside0.mk ((by rw [hg]; exact (below_size (by repeat (first | (with_reducible first | exact HB.out | apply below_alloc | apply pw_below_drewN | apply below_drew1) | exact HB.out))) : w.heap.size ≤ gb233)); clear HB; have HB := n0_; have BK233 := n1_; have GW233 := n2_; have GE233 := n3_; clear n0_ n1_ n2_ n3_; clear hb hbox hg; have hcz21_0 : w20.cell? ⟨gb233, 0, none⟩ = some (.int .i64 a0_0) := (blk_cell BK233.out 0).trans rfl; have hcz21_1 : w20.cell? ⟨gb233, 1, none⟩ = some (.int .i64 a0_1) := (blk_cell BK233.out 1).trans rfl; have hcz21_2 : w20.cell? ⟨gb233, 2, none⟩ = some (.slice A0_2 l0_2.length c0_2) := (blk_cell BK233.out 2).trans rfl; have hcz21_3 : w20.cell? ⟨gb233, 3, none⟩ = some (.slice A0_3 l0_3.length c0_3) := (blk_cell BK233.out 3).trans rfl; have hcz21_4 : w20.cell? ⟨gb233, 4, none⟩ = some (.slice A0_4 l0_4.length c0_4) := (blk_cell BK233.out 4).trans rfl; have hfz21_0 := blk_frozen BK233.out 0; have hfz21_1 := blk_frozen BK233.out 1; have hfz21_2 := blk_frozen BK233.out 2; have hfz21_3 := blk_frozen BK233.out 3; have hfz21_4 := blk_frozen BK233.out 4))
                  go_ret
                  exact ⟨by first | rfl | (simp [errW_none, errW_some] <;> rfl) | (simp [*, errW_none, errW_some] <;> rfl), by repeat (first | (with_reducible first | exact HB.out | apply below_alloc | apply pw_below_drewN | apply below_drew1 | refine below_set ?_ GE233.out) | exact HB.out)⟩
              · rw [if_neg c16] at H
                have c16b0 : ((l0_2.length : Int) == (wrap64 (a0_0 * a0_1))) = false := beq_eq_false_iff_ne.mpr c16
                have c16b1 : ((l0_2.length : Int) != (wrap64 (a0_0 * a0_1))) = true := bne_iff_ne.mpr c16
                obtain rfl := Option.some.inj H
                go_enter Try.func27, Try.ntmps27
                go_wp2_with (first | ((with_reducible refine gate_dst (N := 1) rfl ?_); (try (refine gate_guard (by rfl) ?_; dsimp only)); refine box_event ?hg (N := 1) ?hd (cs := #[.int .i64 a0_0, .int .i64 a0_1, .slice A0_2 l0_2.length c0_2, .slice A0_3 l0_3.length c0_3, .slice A0_4 l0_4.length c0_4]) (t := 24) ?hr ?_; (case hd => rfl); (case hg => rfl); (case hr => first | (go_simp; done) | (go_simp; rfl)); intro gb233 hg w22 hbox hb; have n0_ := Aside0.mk (below_step (by repeat (first | (with_reducible first | exact HB.out | apply below_alloc | apply pw_below_drewN | apply below_drew1) | exact HB.out)) hb); have n1_ := Aside0.mk (hbox); have n2_ := Aside0.mk ((by rw [hg]; exact (below_size (by repeat (first | (with_reducible first | exact HB.out | apply below_alloc | apply pw_below_drewN | apply below_drew1) | exact HB.out))) : w.heap.size ≤ gb233)); have n3_ := Aside0.mk ((by rw [hg]; exact (below_size (by repeat (first | (with_reducible first | exact HB.out | apply below_alloc | apply pw_below_drewN | apply below_drew1) | exact HB.out))) : w.heap.size ≤ gb233)); clear HB; have HB := n0_; have BK233 := n1_; have GW233 := n2_; have GE233 := n3_; clear n0_ n1_ n2_ n3_; clear hb hbox hg; have hcz23_0 : w22.cell? ⟨gb233, 0, none⟩ = some (.int .i64 a0_0) := (blk_cell BK233.out 0).trans rfl; have hcz23_1 : w22.cell? ⟨gb233, 1, none⟩ = some (.int .i64 a0_1) := (blk_cell BK233.out 1).trans rfl; have hcz23_2 : w22.cell? ⟨gb233, 2, none⟩ = some (.slice A0_2 l0_2.length c0_2) := (blk_cell BK233.out 2).trans rfl; have hcz23_3 : w22.cell? ⟨gb233, 3, none⟩ = some (.slice A0_3 l0_3.length c0_3) := (blk_cell BK233.out 3).trans rfl; have hcz23_4 : w22.cell? ⟨gb233, 4, none⟩ = some (.slice A0_4 l0_4.length c0_4) := (blk_cell BK233.out 4).trans rfl; have hfz23_0 := blk_frozen BK233.out 0; have hfz23_1 := blk_frozen BK233.out 1; have hfz23_2 := blk_frozen BK233.out 2; have hfz23_3 := blk_frozen BK233.out 3; have hfz23_4 := blk_frozen BK233.out 4))
                go_ret
                exact ⟨by first | rfl | (simp [errW_none, errW_some] <;> rfl) | (simp [*, errW_none, errW_some] <;> rfl), by repeat (first | (with_reducible first | exact HB.out | apply below_alloc | apply pw_below_drewN | apply below_drew1 | refine below_set ?_ GE233.out) | exact HB.out)⟩
            · rw [if_neg c15] at H
              have c15b0 : ((Int.tmod a0_1 2) == 0) = false := beq_eq_false_iff_ne.mpr c15
              have c15b1 : ((Int.tmod a0_1 2) != 0) = true := bne_iff_ne.mpr c15
              obtain rfl := Option.some.inj H
              go_enter Try.func27, Try.ntmps27
              go_wp2_with (first | ((with_reducible refine gate_dst (N := 1) rfl ?_); (try (refine gate_guard (by rfl) ?_; dsimp only)); refine box_event ?hg (N := 1) ?hd (cs := #[.int .i64 a0_0, .int .i64 a0_1, .slice A0_2 l0_2.length c0_2, .slice A0_3 l0_3.length c0_3, .slice A0_4 l0_4.length c0_4]) (t := 24) ?hr ?_; (case hd => rfl); (case hg => rfl); (case hr => first | (go_simp; done) | (go_simp; rfl)); intro gb233 hg w24 hbox hb; have n0_ := Aside0.mk (below_step (by repeat (first | (with_reducible first | exact HB.out | apply below_alloc | apply pw_below_drewN | apply below_drew1) | exact HB.out)) hb); have n1_ := Aside0.mk (hbox); have n2_ := Aside0.mk ((by rw [hg]; exact (below_size (by repeat (first | (with_reducible first | exact HB.out | apply below_alloc | apply pw_below_drewN | apply below_drew1) | exact HB.out))) : w.heap.size ≤ gb233)); have n3_ := Aside0.mk ((by rw [hg]; exact (below_size (by repeat (first | (with_reducible first | exact HB.out | apply below_alloc | apply pw_below_drewN | apply below_drew1) | exact HB.out))) : w.heap.size ≤ gb233)); clear HB; have HB := n0_; have BK233 := n1_; have GW233 := n2_; have GE233 := n3_; clear n0_ n1_ n2_ n3_; clear hb hbox hg; have hcz25_0 : w24.cell? ⟨gb233, 0, none⟩ = some (.int .i64 a0_0) := (blk_cell BK233.out 0).trans rfl; have hcz25_1 : w24.cell? ⟨gb233, 1, none⟩ = some (.int .i64 a0_1) := (blk_cell BK233.out 1).trans rfl; have hcz25_2 : w24.cell? ⟨gb233, 2, none⟩ = some (.slice A0_2 l0_2.length c0_2) := (blk_cell BK233.out 2).trans rfl; have hcz25_3 : w24.cell? ⟨gb233, 3, none⟩ = some (.slice A0_3 l0_3.length c0_3) := (blk_cell BK233.out 3).trans rfl; have hcz25_4 : w24.cell? ⟨gb233, 4, none⟩ = some (.slice A0_4 l0_4.length c0_4) := (blk_cell BK233.out 4).trans rfl; have hfz25_0 := blk_frozen BK233.out 0; have hfz25_1 := blk_frozen BK233.out 1; have hfz25_2 := blk_frozen BK233.out 2; have hfz25_3 := blk_frozen BK233.out 3; have hfz25_4 := blk_frozen BK233.out 4))
              go_ret
              exact ⟨by first | rfl | (simp [errW_none, errW_some] <;> rfl) | (simp [*, errW_none, errW_some] <;> rfl), by repeat (first | (with_reducible first | exact HB.out | apply below_alloc | apply pw_below_drewN | apply below_drew1 | refine below_set ?_ GE233.out) | exact HB.out)⟩
      · rw [if_neg c8] at H
        have c8b0 : ((Int.tmod a0_0 2) == 0) = false := beq_eq_false_iff_ne.mpr c8
        have c8b1 : ((Int.tmod a0_0 2) != 0) = true := bne_iff_ne.mpr c8
        obtain rfl := Option.some.inj H
        go_enter Try.func27, Try.ntmps27
        go_wp2_with (first | ((with_reducible refine gate_dst (N := 1) rfl ?_); (try (refine gate_guard (by rfl) ?_; dsimp only)); refine box_event ?hg (N := 1) ?hd (cs := #[.int .i64 a0_0, .int .i64 a0_1, .slice A0_2 l0_2.length c0_2, .slice A0_3 l0_3.length c0_3, .slice A0_4 l0_4.length c0_4]) (t := 24) ?hr ?_; (case hd => rfl); (case hg => rfl); (case hr => first | (go_simp; done) | (go_simp; rfl)); intro gb233 hg w26 hbox hb; have n0_ := Aside0.mk (below_step (by repeat (first | (with_reducible first | exact HB.out | apply below_alloc | apply pw_below_drewN | apply below_drew1) | exact HB.out)) hb); have n1_ := Aside0.mk (hbox); have n2_ := Aside0.mk ((by rw [hg]; exact (below_size (by repeat (first | (with_reducible first | exact HB.out | apply below_alloc | apply pw_below_drewN | apply below_drew1) | exact HB.out))) : w.heap.size ≤ gb233)); have n3_ := Aside0.mk ((by rw [hg]; exact (below_size (by repeat (first | (with_reducible first | exact HB.out | apply below_alloc | apply pw_below_drewN | apply below_drew1) | exact HB.out))) : w.heap.size ≤ gb233)); clear HB; have HB := n0_; have BK233 := n1_; have GW233 := n2_; have GE233 := n3_; clear n0_ n1_ n2_ n3_; clear hb hbox hg; have hcz27_0 : w26.cell? ⟨gb233, 0, none⟩ = some (.int .i64 a0_0) := (blk_cell BK233.out 0).trans rfl; have hcz27_1 : w26.cell? ⟨gb233, 1, none⟩ = some (.int .i64 a0_1) := (blk_cell BK233.out 1).trans rfl; have hcz27_2 : w26.cell? ⟨gb233, 2, none⟩ = some (.slice A0_2 l0_2.length c0_2) := (blk_cell BK233.out 2).trans rfl; have hcz27_3 : w26.cell? ⟨gb233, 3, none⟩ = some (.slice A0_3 l0_3.length c0_3) := (blk_cell BK233.out 3).trans rfl; have hcz27_4 : w26.cell? ⟨gb233, 4, none⟩ = some (.slice A0_4 l0_4.length c0_4) := (blk_cell BK233.out 4).trans rfl; have hfz27_0 := blk_frozen BK233.out 0; have hfz27_1 := blk_frozen BK233.out 1; have hfz27_2 := blk_frozen BK233.out 2; have hfz27_3 := blk_frozen BK233.out 3; have hfz27_4 := blk_frozen BK233.out 4))
        go_ret
        exact ⟨by first | rfl | (simp [errW_none, errW_some] <;> rfl) | (simp [*, errW_none, errW_some] <;> rfl), by repeat (first | (with_reducible first | exact HB.out | apply below_alloc | apply pw_below_drewN | apply below_drew1 | refine below_set ?_ GE233.out) | exact HB.out)⟩

/-! ### cutroomref08_May: function 34 -/
def cutroomref08_May.f (a0_0 : Int) (a0_1 : Int) : Option (Bool) := if a0_0 ≥ (-63) then (if a0_0 ≤ 63 then (if a0_1 ≥ (-63) then (some (decide (a0_1 ≤ 63))) else (some false)) else (some false)) else (some false)
set_option maxHeartbeats 8000000 in
set_option maxRecDepth 100000 in
theorem cutroomref08_May.calls (a0_0 : Int) (a0_1 : Int) (r : Bool) (w : World) (h : cutroomref08_May.f a0_0 a0_1 = some r) :
    Calls Try.prog 34 #[.agg #[.int .i64 a0_0, .int .i64 a0_1]] w fun e w' => e = .returned (.bool r) ∧ Below w.heap.size w w' := by
  have hu32 := Try.underlying32
  have HB := Aside0.mk (Below.refl w.heap.size w)
  have H : (if a0_0 ≥ (-63) then (if a0_0 ≤ 63 then (if a0_1 ≥ (-63) then (some (decide (a0_1 ≤ 63))) else (some false)) else (some false)) else (some false)) = some r := h
  clear h
  by_cases c2 : a0_0 ≥ (-63)
  · rw [if_pos c2] at H
    have c2b0 : decide ((-63) ≤ a0_0) = true := decide_eq_true c2
    clear c2
    by_cases c3 : a0_0 ≤ 63
    · rw [if_pos c3] at H
      have c3b0 : decide (a0_0 ≤ 63) = true := decide_eq_true c3
      clear c3
      by_cases c4 : a0_1 ≥ (-63)
      · rw [if_pos c4] at H
        have c4b0 : decide ((-63) ≤ a0_1) = true := decide_eq_true c4
        clear c4
        obtain rfl := Option.some.inj H
        go_enter Try.func34, Try.ntmps34
        go_wp2_with (first | ((with_reducible refine gate_dst (N := 1) rfl ?_); refine box_event ?hg (N := 1) ?hd (cs := #[.int .i64 a0_0, .int .i64 a0_1]) (t := 32) ?hr ?_; (case hd => rfl); (case hg => rfl); (case hr => first | (go_simp; done) | (go_simp; rfl)); intro gb234 hg w5 hbox hb; have n0_ := Aside0.mk (below_step (by repeat (first | (with_reducible first | exact HB.out | apply below_alloc | apply pw_below_drewN | apply below_drew1) | exact HB.out)) hb); have n1_ := Aside0.mk (hbox); have n2_ := Aside0.mk ((by rw [hg]; exact (below_size (by repeat (first | (with_reducible first | exact HB.out | apply below_alloc | apply pw_below_drewN | apply below_drew1) | exact HB.out))) : w.heap.size ≤ gb234)); have n3_ := Aside0.mk ((by rw [hg]; exact (below_size (by repeat (first | (with_reducible first | exact HB.out | apply below_alloc | apply pw_below_drewN | apply below_drew1) | exact HB.out))) : w.heap.size ≤ gb234)); clear HB; have HB := n0_; have BK234 := n1_; have GW234 := n2_; have GE234 := n3_; clear n0_ n1_ n2_ n3_; clear hb hbox hg; have hcz6_0 : w5.cell? ⟨gb234, 0, none⟩ = some (.int .i64 a0_0) := (blk_cell BK234.out 0).trans rfl; have hcz6_1 : w5.cell? ⟨gb234, 1, none⟩ = some (.int .i64 a0_1) := (blk_cell BK234.out 1).trans rfl; have hfz6_0 := blk_frozen BK234.out 0; have hfz6_1 := blk_frozen BK234.out 1))
        go_ret
        exact ⟨by first | rfl | (simp [errW_none, errW_some] <;> rfl) | (simp [*, errW_none, errW_some] <;> rfl), by repeat (first | (with_reducible first | exact HB.out | apply below_alloc | apply pw_below_drewN | apply below_drew1 | refine below_set ?_ GE234.out) | exact HB.out)⟩
      · rw [if_neg c4] at H
        have c4b0 : decide ((-63) ≤ a0_1) = false := decide_eq_false c4
        clear c4
        obtain rfl := Option.some.inj H
        go_enter Try.func34, Try.ntmps34
        go_wp2_with (first | ((with_reducible refine gate_dst (N := 1) rfl ?_); refine box_event ?hg (N := 1) ?hd (cs := #[.int .i64 a0_0, .int .i64 a0_1]) (t := 32) ?hr ?_; (case hd => rfl); (case hg => rfl); (case hr => first | (go_simp; done) | (go_simp; rfl)); intro gb234 hg w7 hbox hb; have n0_ := Aside0.mk (below_step (by repeat (first | (with_reducible first | exact HB.out | apply below_alloc | apply pw_below_drewN | apply below_drew1) | exact HB.out)) hb); have n1_ := Aside0.mk (hbox); have n2_ := Aside0.mk ((by rw [hg]; exact (below_size (by repeat (first | (with_reducible first | exact HB.out | apply below_alloc | apply pw_below_drewN | apply below_drew1) | exact HB.out))) : w.heap.size ≤ gb234)); have n3_ := Aside0.mk ((by rw [hg]; exact (below_size (by repeat (first | (with_reducible first | exact HB.out | apply below_alloc | apply pw_below_drewN | apply below_drew1) | exact HB.out))) : w.heap.size ≤ gb234)); clear HB; have HB := n0_; have BK234 := n1_; have GW234 := n2_; have GE234 := n3_; clear n0_ n1_ n2_ n3_; clear hb hbox hg; have hcz8_0 : w7.cell? ⟨gb234, 0, none⟩ = some (.int .i64 a0_0) := (blk_cell BK234.out 0).trans rfl; have hcz8_1 : w7.cell? ⟨gb234, 1, none⟩ = some (.int .i64 a0_1) := (blk_cell BK234.out 1).trans rfl; have hfz8_0 := blk_frozen BK234.out 0; have hfz8_1 := blk_frozen BK234.out 1))
        go_ret
        exact ⟨by first | rfl | (simp [errW_none, errW_some] <;> rfl) | (simp [*, errW_none, errW_some] <;> rfl), by repeat (first | (with_reducible first | exact HB.out | apply below_alloc | apply pw_below_drewN | apply below_drew1 | refine below_set ?_ GE234.out) | exact HB.out)⟩
    · rw [if_neg c3] at H
      have c3b0 : decide (a0_0 ≤ 63) = false := decide_eq_false c3
      clear c3
      obtain rfl := Option.some.inj H
      go_enter Try.func34, Try.ntmps34
      go_wp2_with (first | ((with_reducible refine gate_dst (N := 1) rfl ?_); refine box_event ?hg (N := 1) ?hd (cs := #[.int .i64 a0_0, .int .i64 a0_1]) (t := 32) ?hr ?_; (case hd => rfl); (case hg => rfl); (case hr => first | (go_simp; done) | (go_simp; rfl)); intro gb234 hg w9 hbox hb; have n0_ := Aside0.mk (below_step (by repeat (first | (with_reducible first | exact HB.out | apply below_alloc | apply pw_below_drewN | apply below_drew1) | exact HB.out)) hb); have n1_ := Aside0.mk (hbox); have n2_ := Aside0.mk ((by rw [hg]; exact (below_size (by repeat (first | (with_reducible first | exact HB.out | apply below_alloc | apply pw_below_drewN | apply below_drew1) | exact HB.out))) : w.heap.size ≤ gb234)); have n3_ := Aside0.mk ((by rw [hg]; exact (below_size (by repeat (first | (with_reducible first | exact HB.out | apply below_alloc | apply pw_below_drewN | apply below_drew1) | exact HB.out))) : w.heap.size ≤ gb234)); clear HB; have HB := n0_; have BK234 := n1_; have GW234 := n2_; have GE234 := n3_; clear n0_ n1_ n2_ n3_; clear hb hbox hg; have hcz10_0 : w9.cell? ⟨gb234, 0, none⟩ = some (.int .i64 a0_0) := (blk_cell BK234.out 0).trans rfl; have hcz10_1 : w9.cell? ⟨gb234, 1, none⟩ = some (.int .i64 a0_1) := (blk_cell BK234.out 1).trans rfl; have hfz10_0 := blk_frozen BK234.out 0; have hfz10_1 := blk_frozen BK234.out 1))
      go_ret
      exact ⟨by first | rfl | (simp [errW_none, errW_some] <;> rfl) | (simp [*, errW_none, errW_some] <;> rfl), by repeat (first | (with_reducible first | exact HB.out | apply below_alloc | apply pw_below_drewN | apply below_drew1 | refine below_set ?_ GE234.out) | exact HB.out)⟩
  · rw [if_neg c2] at H
    have c2b0 : decide ((-63) ≤ a0_0) = false := decide_eq_false c2
    clear c2
    obtain rfl := Option.some.inj H
    go_enter Try.func34, Try.ntmps34
    go_wp2_with (first | ((with_reducible refine gate_dst (N := 1) rfl ?_); refine box_event ?hg (N := 1) ?hd (cs := #[.int .i64 a0_0, .int .i64 a0_1]) (t := 32) ?hr ?_; (case hd => rfl); (case hg => rfl); (case hr => first | (go_simp; done) | (go_simp; rfl)); intro gb234 hg w11 hbox hb; have n0_ := Aside0.mk (below_step (by repeat (first | (with_reducible first | exact HB.out | apply below_alloc | apply pw_below_drewN | apply below_drew1) | exact HB.out)) hb); have n1_ := Aside0.mk (hbox); have n2_ := Aside0.mk ((by rw [hg]; exact (below_size (by repeat (first | (with_reducible first | exact HB.out | apply below_alloc | apply pw_below_drewN | apply below_drew1) | exact HB.out))) : w.heap.size ≤ gb234)); have n3_ := Aside0.mk ((by rw [hg]; exact (below_size (by repeat (first | (with_reducible first | exact HB.out | apply below_alloc | apply pw_below_drewN | apply below_drew1) | exact HB.out))) : w.heap.size ≤ gb234)); clear HB; have HB := n0_; have BK234 := n1_; have GW234 := n2_; have GE234 := n3_; clear n0_ n1_ n2_ n3_; clear hb hbox hg; have hcz12_0 : w11.cell? ⟨gb234, 0, none⟩ = some (.int .i64 a0_0) := (blk_cell BK234.out 0).trans rfl; have hcz12_1 : w11.cell? ⟨gb234, 1, none⟩ = some (.int .i64 a0_1) := (blk_cell BK234.out 1).trans rfl; have hfz12_0 := blk_frozen BK234.out 0; have hfz12_1 := blk_frozen BK234.out 1))
    go_ret
    exact ⟨by first | rfl | (simp [errW_none, errW_some] <;> rfl) | (simp [*, errW_none, errW_some] <;> rfl), by repeat (first | (with_reducible first | exact HB.out | apply below_alloc | apply pw_below_drewN | apply below_drew1 | refine below_set ?_ GE234.out) | exact HB.out)⟩

/-! ### cutroomref08_sample: function 52 -/
def cutroomref08_sample.f (l0 : List Int) (a1 : Int) (a2 : Int) (a3 : Int) : Option (Int) := if a1 = 0 then (none) else (if 0 ≤ (wrap64 ((wrap64 ((mx 0 (mn a3 (wrap64 ((wrap64 ((l0.length : Int) / a1)) - 1)))) * a1)) + (mx 0 (mn a2 (wrap64 (a1 - 1)))))) then (if (wrap64 ((wrap64 ((mx 0 (mn a3 (wrap64 ((wrap64 ((l0.length : Int) / a1)) - 1)))) * a1)) + (mx 0 (mn a2 (wrap64 (a1 - 1)))))) < (l0.length : Int) then (some (wrap64 (rd l0 (wrap64 ((wrap64 ((mx 0 (mn a3 (wrap64 ((wrap64 ((l0.length : Int) / a1)) - 1)))) * a1)) + (mx 0 (mn a2 (wrap64 (a1 - 1))))))))) else (none)) else (none))
set_option maxHeartbeats 8000000 in
set_option maxRecDepth 100000 in
theorem cutroomref08_sample.calls (A0 : Option Addr) (c0 : Nat) (l0 : List Int) (a1 : Int) (a2 : Int) (a3 : Int) (r : Int) (w : World) (hr0 : Kd.C (Kd.int .u8) w A0 l0.length l0) (hc0 : l0.length ≤ c0) (h : cutroomref08_sample.f l0 a1 a2 a3 = some r) :
    Calls Try.prog 52 #[.slice A0 l0.length c0, .int .i64 a1, .int .i64 a2, .int .i64 a3] w fun e w' => e = .returned (.int .i64 r) ∧ Below w.heap.size w w' := by
  have HR0 := Aside0.mk hr0
  have HC0 := Aside0.mk hc0
  clear hr0 hc0
  have HB := Aside0.mk (Below.refl w.heap.size w)
  have H : (if a1 = 0 then (none) else (if 0 ≤ (wrap64 ((wrap64 ((mx 0 (mn a3 (wrap64 ((wrap64 ((l0.length : Int) / a1)) - 1)))) * a1)) + (mx 0 (mn a2 (wrap64 (a1 - 1)))))) then (if (wrap64 ((wrap64 ((mx 0 (mn a3 (wrap64 ((wrap64 ((l0.length : Int) / a1)) - 1)))) * a1)) + (mx 0 (mn a2 (wrap64 (a1 - 1)))))) < (l0.length : Int) then (some (wrap64 (rd l0 (wrap64 ((wrap64 ((mx 0 (mn a3 (wrap64 ((wrap64 ((l0.length : Int) / a1)) - 1)))) * a1)) + (mx 0 (mn a2 (wrap64 (a1 - 1))))))))) else (none)) else (none))) = some r := h
  clear h
  by_cases c5 : a1 = 0
  · rw [if_pos c5] at H
    exact absurd H (by simp)
  · rw [if_neg c5] at H
    have c5b0 : (a1 == 0) = false := beq_eq_false_iff_ne.mpr c5
    have c5b1 : (a1 != 0) = true := bne_iff_ne.mpr c5
    obtain ⟨ji6, hji6⟩ : ∃ j_ : Int, (mn a3 (wrap64 ((wrap64 ((l0.length : Int) / a1)) - 1))) = j_ := ⟨_, rfl⟩
    replace H : (if 0 ≤ (wrap64 ((wrap64 ((mx 0 (ji6)) * a1)) + (mx 0 (mn a2 (wrap64 (a1 - 1)))))) then (if (wrap64 ((wrap64 ((mx 0 (ji6)) * a1)) + (mx 0 (mn a2 (wrap64 (a1 - 1)))))) < (l0.length : Int) then (some (wrap64 (rd l0 (wrap64 ((wrap64 ((mx 0 (ji6)) * a1)) + (mx 0 (mn a2 (wrap64 (a1 - 1))))))))) else (none)) else (none)) = some r := by first | (rw [hji6] at H; exact H) | (simp only [hji6] at H ⊢; exact H)
    have hji6_ : (if (wrap64 ((wrap64 ((l0.length : Int) / a1)) - 1)) < a3 then (wrap64 ((wrap64 ((l0.length : Int) / a1)) - 1)) else a3) = ji6 := hji6
    obtain ⟨ji7, hji7⟩ : ∃ j_ : Int, (mx 0 (ji6)) = j_ := ⟨_, rfl⟩
    replace H : (if 0 ≤ (wrap64 ((wrap64 ((ji7) * a1)) + (mx 0 (mn a2 (wrap64 (a1 - 1)))))) then (if (wrap64 ((wrap64 ((ji7) * a1)) + (mx 0 (mn a2 (wrap64 (a1 - 1)))))) < (l0.length : Int) then (some (wrap64 (rd l0 (wrap64 ((wrap64 ((ji7) * a1)) + (mx 0 (mn a2 (wrap64 (a1 - 1))))))))) else (none)) else (none)) = some r := by first | (rw [hji7] at H; exact H) | (simp only [hji7] at H ⊢; exact H)
    have hji7_ : (if 0 < (ji6) then (ji6) else 0) = ji7 := hji7
    obtain ⟨ji8, hji8⟩ : ∃ j_ : Int, (mn a2 (wrap64 (a1 - 1))) = j_ := ⟨_, rfl⟩
    replace H : (if 0 ≤ (wrap64 ((wrap64 ((ji7) * a1)) + (mx 0 (ji8)))) then (if (wrap64 ((wrap64 ((ji7) * a1)) + (mx 0 (ji8)))) < (l0.length : Int) then (some (wrap64 (rd l0 (wrap64 ((wrap64 ((ji7) * a1)) + (mx 0 (ji8))))))) else (none)) else (none)) = some r := by first | (rw [hji8] at H; exact H) | (simp only [hji8] at H ⊢; exact H)
    have hji8_ : (if (wrap64 (a1 - 1)) < a2 then (wrap64 (a1 - 1)) else a2) = ji8 := hji8
    obtain ⟨ji9, hji9⟩ : ∃ j_ : Int, (mx 0 (ji8)) = j_ := ⟨_, rfl⟩
    replace H : (if 0 ≤ (wrap64 ((wrap64 ((ji7) * a1)) + (ji9))) then (if (wrap64 ((wrap64 ((ji7) * a1)) + (ji9))) < (l0.length : Int) then (some (wrap64 (rd l0 (wrap64 ((wrap64 ((ji7) * a1)) + (ji9)))))) else (none)) else (none)) = some r := by first | (rw [hji9] at H; exact H) | (simp only [hji9] at H ⊢; exact H)
    have hji9_ : (if 0 < (ji8) then (ji8) else 0) = ji9 := hji9
    obtain ⟨ji10, hji10⟩ : ∃ j_ : Int, (wrap64 ((wrap64 ((ji7) * a1)) + (ji9))) = j_ := ⟨_, rfl⟩
    replace H : (if 0 ≤ (ji10) then (if (ji10) < (l0.length : Int) then (some (wrap64 (rd l0 (ji10)))) else (none)) else (none)) = some r := by first | (rw [hji10] at H; exact H) | (simp only [hji10] at H ⊢; exact H)
    have hji10w : (IntKind.i64.wrap ((wrap64 ((ji7) * a1)) + (ji9))) = ji10 := (i64_w _).trans hji10
    by_cases c11 : 0 ≤ (ji10)
    · rw [if_pos c11] at H
      have c11b0 : decide (0 ≤ (ji10)) = true := decide_eq_true c11
      clear c11
      by_cases c12 : (ji10) < (l0.length : Int)
      · rw [if_pos c12] at H
        have c12b0 : decide ((ji10) < (l0.length : Int)) = true := decide_eq_true c12
        clear c12
        obtain rfl := Option.some.inj H
        have p235 : 0 ≤ ((ji10) : Int) := of_decide_eq_true (by first | (with_reducible assumption) | assumption)
        have q235 : (ji10) < (l0.length : Int) := of_decide_eq_true (by first | (with_reducible assumption) | assumption)
        obtain ⟨ad235, e235, hx235_0⟩ := Kd.at_int HR0.out (ji10) p235 q235
        cases e235
        replace p235 := eq_true p235
        replace q235 := eq_true q235
        go_enter Try.func52, Try.ntmps52
        go_wp2
        go_ret
        exact ⟨by first | rfl | (simp [errW_none, errW_some] <;> rfl) | (simp only [← hji6, ← hji7, ← hji8, ← hji9, ← hji10]; first | rfl | (simp [errW_none, errW_some] <;> rfl)) | (simp [*, errW_none, errW_some] <;> rfl), by repeat (first | (with_reducible first | exact HB.out | apply below_alloc | apply pw_below_drewN | apply below_drew1) | exact HB.out)⟩
      · rw [if_neg c12] at H
        exact absurd H (by simp)
    · rw [if_neg c11] at H
      exact absurd H (by simp)

/-! ### cutroomref08_half: function 47 -/
def cutroomref08_half.f (l0 : List Int) (a1 : Int) (a2 : Int) (a3 : Int) : Option (Int) := (cutroomref08_sample.f l0 a1 (a2 / 2) (a3 / 2)).bind fun t236 => ((cutroomref08_sample.f l0 a1 (wrap64 ((a2 / 2) + (Go.bits .and .i64 a2 1))) (a3 / 2)).bind fun t237 => ((cutroomref08_sample.f l0 a1 (a2 / 2) (wrap64 ((a3 / 2) + (Go.bits .and .i64 a3 1)))).bind fun t238 => ((cutroomref08_sample.f l0 a1 (wrap64 ((a2 / 2) + (Go.bits .and .i64 a2 1))) (wrap64 ((a3 / 2) + (Go.bits .and .i64 a3 1)))).bind fun t239 => (if (Go.bits .and .i64 a2 1) = 1 then (if (Go.bits .and .i64 a3 1) = 1 then (some (((wrap64 ((wrap64 ((wrap64 ((wrap64 (t236 + t237)) + t238)) + t239)) + 2)) / 4) % 256)) else (some (((wrap64 ((wrap64 (Int.tdiv (wrap64 ((wrap64 ((wrap64 (t236 + t237)) + t238)) + t239)) 2)) + 1)) / 2) % 256))) else (some (((wrap64 ((wrap64 (Int.tdiv (wrap64 ((wrap64 ((wrap64 (t236 + t237)) + t238)) + t239)) 2)) + 1)) / 2) % 256))))))
set_option maxHeartbeats 8000000 in
set_option maxRecDepth 100000 in
theorem cutroomref08_half.calls (A0 : Option Addr) (c0 : Nat) (l0 : List Int) (a1 : Int) (a2 : Int) (a3 : Int) (r : Int) (w : World) (hr0 : Kd.C (Kd.int .u8) w A0 l0.length l0) (hc0 : l0.length ≤ c0) (h : cutroomref08_half.f l0 a1 a2 a3 = some r) :
    Calls Try.prog 47 #[.slice A0 l0.length c0, .int .i64 a1, .int .i64 a2, .int .i64 a3] w fun e w' => e = .returned (.int .u8 r) ∧ Below w.heap.size w w' := by
  have HR0 := Aside0.mk hr0
  have HC0 := Aside0.mk hc0
  clear hr0 hc0
  have HB := Aside0.mk (Below.refl w.heap.size w)
  have H : ((cutroomref08_sample.f l0 a1 (a2 / 2) (a3 / 2)).bind fun t236 => ((cutroomref08_sample.f l0 a1 (wrap64 ((a2 / 2) + (Go.bits .and .i64 a2 1))) (a3 / 2)).bind fun t237 => ((cutroomref08_sample.f l0 a1 (a2 / 2) (wrap64 ((a3 / 2) + (Go.bits .and .i64 a3 1)))).bind fun t238 => ((cutroomref08_sample.f l0 a1 (wrap64 ((a2 / 2) + (Go.bits .and .i64 a2 1))) (wrap64 ((a3 / 2) + (Go.bits .and .i64 a3 1)))).bind fun t239 => (if (Go.bits .and .i64 a2 1) = 1 then (if (Go.bits .and .i64 a3 1) = 1 then (some (((wrap64 ((wrap64 ((wrap64 ((wrap64 (t236 + t237)) + t238)) + t239)) + 2)) / 4) % 256)) else (some (((wrap64 ((wrap64 (Int.tdiv (wrap64 ((wrap64 ((wrap64 (t236 + t237)) + t238)) + t239)) 2)) + 1)) / 2) % 256))) else (some (((wrap64 ((wrap64 (Int.tdiv (wrap64 ((wrap64 ((wrap64 (t236 + t237)) + t238)) + t239)) 2)) + 1)) / 2) % 256))))))) = some r := h
  clear h
  replace H := Option.bind_eq_some_iff.mp H
  obtain ⟨t236, A50, H⟩ := H
  replace H : ((cutroomref08_sample.f l0 a1 (wrap64 ((a2 / 2) + (Go.bits .and .i64 a2 1))) (a3 / 2)).bind fun t237 => ((cutroomref08_sample.f l0 a1 (a2 / 2) (wrap64 ((a3 / 2) + (Go.bits .and .i64 a3 1)))).bind fun t238 => ((cutroomref08_sample.f l0 a1 (wrap64 ((a2 / 2) + (Go.bits .and .i64 a2 1))) (wrap64 ((a3 / 2) + (Go.bits .and .i64 a3 1)))).bind fun t239 => (if (Go.bits .and .i64 a2 1) = 1 then (if (Go.bits .and .i64 a3 1) = 1 then (some (((wrap64 ((wrap64 ((wrap64 ((wrap64 (t236 + t237)) + t238)) + t239)) + 2)) / 4) % 256)) else (some (((wrap64 ((wrap64 (Int.tdiv (wrap64 ((wrap64 ((wrap64 (t236 + t237)) + t238)) + t239)) 2)) + 1)) / 2) % 256))) else (some (((wrap64 ((wrap64 (Int.tdiv (wrap64 ((wrap64 ((wrap64 (t236 + t237)) + t238)) + t239)) 2)) + 1)) / 2) % 256)))))) = some r := H
  have A5 := Aside0.mk A50
  clear A50
  replace H := Option.bind_eq_some_iff.mp H
  obtain ⟨t237, A60, H⟩ := H
  replace H : ((cutroomref08_sample.f l0 a1 (a2 / 2) (wrap64 ((a3 / 2) + (Go.bits .and .i64 a3 1)))).bind fun t238 => ((cutroomref08_sample.f l0 a1 (wrap64 ((a2 / 2) + (Go.bits .and .i64 a2 1))) (wrap64 ((a3 / 2) + (Go.bits .and .i64 a3 1)))).bind fun t239 => (if (Go.bits .and .i64 a2 1) = 1 then (if (Go.bits .and .i64 a3 1) = 1 then (some (((wrap64 ((wrap64 ((wrap64 ((wrap64 (t236 + t237)) + t238)) + t239)) + 2)) / 4) % 256)) else (some (((wrap64 ((wrap64 (Int.tdiv (wrap64 ((wrap64 ((wrap64 (t236 + t237)) + t238)) + t239)) 2)) + 1)) / 2) % 256))) else (some (((wrap64 ((wrap64 (Int.tdiv (wrap64 ((wrap64 ((wrap64 (t236 + t237)) + t238)) + t239)) 2)) + 1)) / 2) % 256))))) = some r := H
  have A6 := Aside0.mk A60
  clear A60
  replace H := Option.bind_eq_some_iff.mp H
  obtain ⟨t238, A70, H⟩ := H
  replace H : ((cutroomref08_sample.f l0 a1 (wrap64 ((a2 / 2) + (Go.bits .and .i64 a2 1))) (wrap64 ((a3 / 2) + (Go.bits .and .i64 a3 1)))).bind fun t239 => (if (Go.bits .and .i64 a2 1) = 1 then (if (Go.bits .and .i64 a3 1) = 1 then (some (((wrap64 ((wrap64 ((wrap64 ((wrap64 (t236 + t237)) + t238)) + t239)) + 2)) / 4) % 256)) else (some (((wrap64 ((wrap64 (Int.tdiv (wrap64 ((wrap64 ((wrap64 (t236 + t237)) + t238)) + t239)) 2)) + 1)) / 2) % 256))) else (some (((wrap64 ((wrap64 (Int.tdiv (wrap64 ((wrap64 ((wrap64 (t236 + t237)) + t238)) + t239)) 2)) + 1)) / 2) % 256)))) = some r := H
  have A7 := Aside0.mk A70
  clear A70
  replace H := Option.bind_eq_some_iff.mp H
  obtain ⟨t239, A80, H⟩ := H
  replace H : (if (Go.bits .and .i64 a2 1) = 1 then (if (Go.bits .and .i64 a3 1) = 1 then (some (((wrap64 ((wrap64 ((wrap64 ((wrap64 (t236 + t237)) + t238)) + t239)) + 2)) / 4) % 256)) else (some (((wrap64 ((wrap64 (Int.tdiv (wrap64 ((wrap64 ((wrap64 (t236 + t237)) + t238)) + t239)) 2)) + 1)) / 2) % 256))) else (some (((wrap64 ((wrap64 (Int.tdiv (wrap64 ((wrap64 ((wrap64 (t236 + t237)) + t238)) + t239)) 2)) + 1)) / 2) % 256))) = some r := H
  have A8 := Aside0.mk A80
  clear A80
  by_cases c9 : (Go.bits .and .i64 a2 1) = 1
  · rw [if_pos c9] at H
    have c9b0 : ((Go.bits .and .i64 a2 1) == 1) = true := beq_iff_eq.mpr c9
    have c9b1 : ((Go.bits .and .i64 a2 1) != 1) = false := bne_eq_false_iff_eq.mpr c9
    clear c9
    by_cases c10 : (Go.bits .and .i64 a3 1) = 1
    · rw [if_pos c10] at H
      have c10b0 : ((Go.bits .and .i64 a3 1) == 1) = true := beq_iff_eq.mpr c10
      have c10b1 : ((Go.bits .and .i64 a3 1) != 1) = false := bne_eq_false_iff_eq.mpr c10
      clear c10
      obtain rfl := Option.some.inj H
      go_enter Try.func47, Try.ntmps47
      go_wp2_with (first | ((with_reducible refine gate_callee (f := 52) rfl ?_); refine goesL_ (some 26) rfl rfl Try.func52 (by kernel_rfl) rfl #[.slice A0 l0.length c0, .int .i64 a1, .int .i64 (a2 / 2), .int .i64 (a3 / 2)] rfl (by (try simp only [List.map_toArray, List.map_cons, List.map_nil]); first | done | rfl | (simp only [List.length_drop, List.length_take]; rfl)) ?_; (with_reducible refine (cutroomref08_sample.calls _ _ l0 a1 (a2 / 2) (a3 / 2) t236 _ ?side1 ?side2 A5.out).mono ?_); (case side1 => repeat (first | exact HR0.out | (with_reducible refine Kd.C_alloc ?_ _) | (with_reducible refine Kd.C_drewN ?_ _) | (with_reducible refine Kd.C_drew ?_))); (case side2 => exact HC0.out); rintro e w11 ⟨rfl, hb⟩; refine ⟨_, rfl, ?_⟩; have n0_ := Aside0.mk (below_step (by repeat (first | (with_reducible first | exact HB.out | apply below_alloc | apply pw_below_drewN | apply below_drew1) | exact HB.out)) hb); clear HB; have HB := n0_; clear n0_; (try clear hb); (try clear hb2); (try clear hk); (try clear hi)) | ((with_reducible refine gate_callee (f := 52) rfl ?_); refine goesL_ (some 33) rfl rfl Try.func52 (by kernel_rfl) rfl #[.slice A0 l0.length c0, .int .i64 a1, .int .i64 (wrap64 ((a2 / 2) + (Go.bits .and .i64 a2 1))), .int .i64 (a3 / 2)] rfl (by (try simp only [List.map_toArray, List.map_cons, List.map_nil]); first | done | rfl | (simp only [List.length_drop, List.length_take]; rfl)) ?_; (with_reducible refine (cutroomref08_sample.calls _ _ l0 a1 (wrap64 ((a2 / 2) + (Go.bits .and .i64 a2 1))) (a3 / 2) t237 _ ?side1 ?side2 A6.out).mono ?_); (case side1 => repeat (first | exact (Kd.C_below HR0.out HB.out) | (with_reducible refine Kd.C_alloc ?_ _) | (with_reducible refine Kd.C_drewN ?_ _) | (with_reducible refine Kd.C_drew ?_))); (case side2 => exact HC0.out); rintro e w12 ⟨rfl, hb⟩; refine ⟨_, rfl, ?_⟩; have n0_ := Aside0.mk (below_step (by repeat (first | (with_reducible first | exact HB.out | apply below_alloc | apply pw_below_drewN | apply below_drew1) | exact HB.out)) hb); clear HB; have HB := n0_; clear n0_; (try clear hb); (try clear hb2); (try clear hk); (try clear hi)) | ((with_reducible refine gate_callee (f := 52) rfl ?_); refine goesL_ (some 41) rfl rfl Try.func52 (by kernel_rfl) rfl #[.slice A0 l0.length c0, .int .i64 a1, .int .i64 (a2 / 2), .int .i64 (wrap64 ((a3 / 2) + (Go.bits .and .i64 a3 1)))] rfl (by (try simp only [List.map_toArray, List.map_cons, List.map_nil]); first | done | rfl | (simp only [List.length_drop, List.length_take]; rfl)) ?_; (with_reducible refine (cutroomref08_sample.calls _ _ l0 a1 (a2 / 2) (wrap64 ((a3 / 2) + (Go.bits .and .i64 a3 1))) t238 _ ?side1 ?side2 A7.out).mono ?_); (case side1 => repeat (first | exact (Kd.C_below HR0.out HB.out) | (with_reducible refine Kd.C_alloc ?_ _) | (with_reducible refine Kd.C_drewN ?_ _) | (with_reducible refine Kd.C_drew ?_))); (case side2 => exact HC0.out); rintro e w13 ⟨rfl, hb⟩; refine ⟨_, rfl, ?_⟩; have n0_ := Aside0.mk (below_step (by repeat (first | (with_reducible first | exact HB.out | apply below_alloc | apply pw_below_drewN | apply below_drew1) | exact HB.out)) hb); clear HB; have HB := n0_; clear n0_; (try clear hb); (try clear hb2); (try clear hk); (try clear hi)) | ((with_reducible refine gate_callee (f := 52) rfl ?_); refine goesL_ (some 51) rfl rfl Try.func52 (by kernel_rfl) rfl #[.slice A0 l0.length c0, .int .i64 a1, .int .i64 (wrap64 ((a2 / 2) + (Go.bits .and .i64 a2 1))), .int .i64 (wrap64 ((a3 / 2) + (Go.bits .and .i64 a3 1)))] rfl (by (try simp only [List.map_toArray, List.map_cons, List.map_nil]); first | done | rfl | (simp only [List.length_drop, List.length_take]; rfl)) ?_; (with_reducible refine (cutroomref08_sample.calls _ _ l0 a1 (wrap64 ((a2 / 2) + (Go.bits .and .i64 a2 1))) (wrap64 ((a3 / 2) + (Go.bits .and .i64 a3 1))) t239 _ ?side1 ?side2 A8.out).mono ?_); (case side1 => repeat (first | exact (Kd.C_below HR0.out HB.out) | (with_reducible refine Kd.C_alloc ?_ _) | (with_reducible refine Kd.C_drewN ?_ _) | (with_reducible refine Kd.C_drew ?_))); (case side2 => exact HC0.out); rintro e w14 ⟨rfl, hb⟩; refine ⟨_, rfl, ?_⟩; have n0_ := Aside0.mk (below_step (by repeat (first | (with_reducible first | exact HB.out | apply below_alloc | apply pw_below_drewN | apply below_drew1) | exact HB.out)) hb); clear HB; have HB := n0_; clear n0_; (try clear hb); (try clear hb2); (try clear hk); (try clear hi)))
      go_ret
      exact ⟨by first | rfl | (simp [errW_none, errW_some] <;> rfl) | (simp [*, errW_none, errW_some] <;> rfl), by repeat (first | (with_reducible first | exact HB.out | apply below_alloc | apply pw_below_drewN | apply below_drew1) | exact HB.out)⟩
    · rw [if_neg c10] at H
      have c10b0 : ((Go.bits .and .i64 a3 1) == 1) = false := beq_eq_false_iff_ne.mpr c10
      have c10b1 : ((Go.bits .and .i64 a3 1) != 1) = true := bne_iff_ne.mpr c10
      obtain rfl := Option.some.inj H
      go_enter Try.func47, Try.ntmps47
      go_wp2_with (first | ((with_reducible refine gate_callee (f := 52) rfl ?_); refine goesL_ (some 26) rfl rfl Try.func52 (by kernel_rfl) rfl #[.slice A0 l0.length c0, .int .i64 a1, .int .i64 (a2 / 2), .int .i64 (a3 / 2)] rfl (by (try simp only [List.map_toArray, List.map_cons, List.map_nil]); first | done | rfl | (simp only [List.length_drop, List.length_take]; rfl)) ?_; (with_reducible refine (cutroomref08_sample.calls _ _ l0 a1 (a2 / 2) (a3 / 2) t236 _ ?side1 ?side2 A5.out).mono ?_); (case side1 => repeat (first | exact HR0.out | (with_reducible refine Kd.C_alloc ?_ _) | (with_reducible refine Kd.C_drewN ?_ _) | (with_reducible refine Kd.C_drew ?_))); (case side2 => exact HC0.out); rintro e w15 ⟨rfl, hb⟩; refine ⟨_, rfl, ?_⟩; have n0_ := Aside0.mk (below_step (by repeat (first | (with_reducible first | exact HB.out | apply below_alloc | apply pw_below_drewN | apply below_drew1) | exact HB.out)) hb); clear HB; have HB := n0_; clear n0_; (try clear hb); (try clear hb2); (try clear hk); (try clear hi)) | ((with_reducible refine gate_callee (f := 52) rfl ?_); refine goesL_ (some 33) rfl rfl Try.func52 (by kernel_rfl) rfl #[.slice A0 l0.length c0, .int .i64 a1, .int .i64 (wrap64 ((a2 / 2) + (Go.bits .and .i64 a2 1))), .int .i64 (a3 / 2)] rfl (by (try simp only [List.map_toArray, List.map_cons, List.map_nil]); first | done | rfl | (simp only [List.length_drop, List.length_take]; rfl)) ?_; (with_reducible refine (cutroomref08_sample.calls _ _ l0 a1 (wrap64 ((a2 / 2) + (Go.bits .and .i64 a2 1))) (a3 / 2) t237 _ ?side1 ?side2 A6.out).mono ?_); (case side1 => repeat (first | exact (Kd.C_below HR0.out HB.out) | (with_reducible refine Kd.C_alloc ?_ _) | (with_reducible refine Kd.C_drewN ?_ _) | (with_reducible refine Kd.C_drew ?_))); (case side2 => exact HC0.out); rintro e w16 ⟨rfl, hb⟩; refine ⟨_, rfl, ?_⟩; have n0_ := Aside0.mk (below_step (by repeat (first | (with_reducible first | exact HB.out | apply below_alloc | apply pw_below_drewN | apply below_drew1) | exact HB.out)) hb); clear HB; have HB := n0_; clear n0_; (try clear hb); (try clear hb2); (try clear hk); (try clear hi)) | ((with_reducible refine gate_callee (f := 52) rfl ?_); refine goesL_ (some 41) rfl rfl Try.func52 (by kernel_rfl) rfl #[.slice A0 l0.length c0, .int .i64 a1, .int .i64 (a2 / 2), .int .i64 (wrap64 ((a3 / 2) + (Go.bits .and .i64 a3 1)))] rfl (by (try simp only [List.map_toArray, List.map_cons, List.map_nil]); first | done | rfl | (simp only [List.length_drop, List.length_take]; rfl)) ?_; (with_reducible refine (cutroomref08_sample.calls _ _ l0 a1 (a2 / 2) (wrap64 ((a3 / 2) + (Go.bits .and .i64 a3 1))) t238 _ ?side1 ?side2 A7.out).mono ?_); (case side1 => repeat (first | exact (Kd.C_below HR0.out HB.out) | (with_reducible refine Kd.C_alloc ?_ _) | (with_reducible refine Kd.C_drewN ?_ _) | (with_reducible refine Kd.C_drew ?_))); (case side2 => exact HC0.out); rintro e w17 ⟨rfl, hb⟩; refine ⟨_, rfl, ?_⟩; have n0_ := Aside0.mk (below_step (by repeat (first | (with_reducible first | exact HB.out | apply below_alloc | apply pw_below_drewN | apply below_drew1) | exact HB.out)) hb); clear HB; have HB := n0_; clear n0_; (try clear hb); (try clear hb2); (try clear hk); (try clear hi)) | ((with_reducible refine gate_callee (f := 52) rfl ?_); refine goesL_ (some 51) rfl rfl Try.func52 (by kernel_rfl) rfl #[.slice A0 l0.length c0, .int .i64 a1, .int .i64 (wrap64 ((a2 / 2) + (Go.bits .and .i64 a2 1))), .int .i64 (wrap64 ((a3 / 2) + (Go.bits .and .i64 a3 1)))] rfl (by (try simp only [List.map_toArray, List.map_cons, List.map_nil]); first | done | rfl | (simp only [List.length_drop, List.length_take]; rfl)) ?_; (with_reducible refine (cutroomref08_sample.calls _ _ l0 a1 (wrap64 ((a2 / 2) + (Go.bits .and .i64 a2 1))) (wrap64 ((a3 / 2) + (Go.bits .and .i64 a3 1))) t239 _ ?side1 ?side2 A8.out).mono ?_); (case side1 => repeat (first | exact (Kd.C_below HR0.out HB.out) | (with_reducible refine Kd.C_alloc ?_ _) | (with_reducible refine Kd.C_drewN ?_ _) | (with_reducible refine Kd.C_drew ?_))); (case side2 => exact HC0.out); rintro e w18 ⟨rfl, hb⟩; refine ⟨_, rfl, ?_⟩; have n0_ := Aside0.mk (below_step (by repeat (first | (with_reducible first | exact HB.out | apply below_alloc | apply pw_below_drewN | apply below_drew1) | exact HB.out)) hb); clear HB; have HB := n0_; clear n0_; (try clear hb); (try clear hb2); (try clear hk); (try clear hi)))
      go_ret
      exact ⟨by first | rfl | (simp [errW_none, errW_some] <;> rfl) | (simp [*, errW_none, errW_some] <;> rfl), by repeat (first | (with_reducible first | exact HB.out | apply below_alloc | apply pw_below_drewN | apply below_drew1) | exact HB.out)⟩
  · rw [if_neg c9] at H
    have c9b0 : ((Go.bits .and .i64 a2 1) == 1) = false := beq_eq_false_iff_ne.mpr c9
    have c9b1 : ((Go.bits .and .i64 a2 1) != 1) = true := bne_iff_ne.mpr c9
    obtain rfl := Option.some.inj H
    go_enter Try.func47, Try.ntmps47
    go_wp2_with (first | ((with_reducible refine gate_callee (f := 52) rfl ?_); refine goesL_ (some 26) rfl rfl Try.func52 (by kernel_rfl) rfl #[.slice A0 l0.length c0, .int .i64 a1, .int .i64 (a2 / 2), .int .i64 (a3 / 2)] rfl (by (try simp only [List.map_toArray, List.map_cons, List.map_nil]); first | done | rfl | (simp only [List.length_drop, List.length_take]; rfl)) ?_; (with_reducible refine (cutroomref08_sample.calls _ _ l0 a1 (a2 / 2) (a3 / 2) t236 _ ?side1 ?side2 A5.out).mono ?_); (case side1 => repeat (first | exact HR0.out | (with_reducible refine Kd.C_alloc ?_ _) | (with_reducible refine Kd.C_drewN ?_ _) | (with_reducible refine Kd.C_drew ?_))); (case side2 => exact HC0.out); rintro e w19 ⟨rfl, hb⟩; refine ⟨_, rfl, ?_⟩; have n0_ := Aside0.mk (below_step (by repeat (first | (with_reducible first | exact HB.out | apply below_alloc | apply pw_below_drewN | apply below_drew1) | exact HB.out)) hb); clear HB; have HB := n0_; clear n0_; (try clear hb); (try clear hb2); (try clear hk); (try clear hi)) | ((with_reducible refine gate_callee (f := 52) rfl ?_); refine goesL_ (some 33) rfl rfl Try.func52 (by kernel_rfl) rfl #[.slice A0 l0.length c0, .int .i64 a1, .int .i64 (wrap64 ((a2 / 2) + (Go.bits .and .i64 a2 1))), .int .i64 (a3 / 2)] rfl (by (try simp only [List.map_toArray, List.map_cons, List.map_nil]); first | done | rfl | (simp only [List.length_drop, List.length_take]; rfl)) ?_; (with_reducible refine (cutroomref08_sample.calls _ _ l0 a1 (wrap64 ((a2 / 2) + (Go.bits .and .i64 a2 1))) (a3 / 2) t237 _ ?side1 ?side2 A6.out).mono ?_); (case side1 => repeat (first | exact (Kd.C_below HR0.out HB.out) | (with_reducible refine Kd.C_alloc ?_ _) | (with_reducible refine Kd.C_drewN ?_ _) | (with_reducible refine Kd.C_drew ?_))); (case side2 => exact HC0.out); rintro e w20 ⟨rfl, hb⟩; refine ⟨_, rfl, ?_⟩; have n0_ := Aside0.mk (below_step (by repeat (first | (with_reducible first | exact HB.out | apply below_alloc | apply pw_below_drewN | apply below_drew1) | exact HB.out)) hb); clear HB; have HB := n0_; clear n0_; (try clear hb); (try clear hb2); (try clear hk); (try clear hi)) | ((with_reducible refine gate_callee (f := 52) rfl ?_); refine goesL_ (some 41) rfl rfl Try.func52 (by kernel_rfl) rfl #[.slice A0 l0.length c0, .int .i64 a1, .int .i64 (a2 / 2), .int .i64 (wrap64 ((a3 / 2) + (Go.bits .and .i64 a3 1)))] rfl (by (try simp only [List.map_toArray, List.map_cons, List.map_nil]); first | done | rfl | (simp only [List.length_drop, List.length_take]; rfl)) ?_; (with_reducible refine (cutroomref08_sample.calls _ _ l0 a1 (a2 / 2) (wrap64 ((a3 / 2) + (Go.bits .and .i64 a3 1))) t238 _ ?side1 ?side2 A7.out).mono ?_); (case side1 => repeat (first | exact (Kd.C_below HR0.out HB.out) | (with_reducible refine Kd.C_alloc ?_ _) | (with_reducible refine Kd.C_drewN ?_ _) | (with_reducible refine Kd.C_drew ?_))); (case side2 => exact HC0.out); rintro e w21 ⟨rfl, hb⟩; refine ⟨_, rfl, ?_⟩; have n0_ := Aside0.mk (below_step (by repeat (first | (with_reducible first | exact HB.out | apply below_alloc | apply pw_below_drewN | apply below_drew1) | exact HB.out)) hb); clear HB; have HB := n0_; clear n0_; (try clear hb); (try clear hb2); (try clear hk); (try clear hi)) | ((with_reducible refine gate_callee (f := 52) rfl ?_); refine goesL_ (some 51) rfl rfl Try.func52 (by kernel_rfl) rfl #[.slice A0 l0.length c0, .int .i64 a1, .int .i64 (wrap64 ((a2 / 2) + (Go.bits .and .i64 a2 1))), .int .i64 (wrap64 ((a3 / 2) + (Go.bits .and .i64 a3 1)))] rfl (by (try simp only [List.map_toArray, List.map_cons, List.map_nil]); first | done | rfl | (simp only [List.length_drop, List.length_take]; rfl)) ?_; (with_reducible refine (cutroomref08_sample.calls _ _ l0 a1 (wrap64 ((a2 / 2) + (Go.bits .and .i64 a2 1))) (wrap64 ((a3 / 2) + (Go.bits .and .i64 a3 1))) t239 _ ?side1 ?side2 A8.out).mono ?_); (case side1 => repeat (first | exact (Kd.C_below HR0.out HB.out) | (with_reducible refine Kd.C_alloc ?_ _) | (with_reducible refine Kd.C_drewN ?_ _) | (with_reducible refine Kd.C_drew ?_))); (case side2 => exact HC0.out); rintro e w22 ⟨rfl, hb⟩; refine ⟨_, rfl, ?_⟩; have n0_ := Aside0.mk (below_step (by repeat (first | (with_reducible first | exact HB.out | apply below_alloc | apply pw_below_drewN | apply below_drew1) | exact HB.out)) hb); clear HB; have HB := n0_; clear n0_; (try clear hb); (try clear hb2); (try clear hk); (try clear hi)))
    go_ret
    exact ⟨by first | rfl | (simp [errW_none, errW_some] <;> rfl) | (simp [*, errW_none, errW_some] <;> rfl), by repeat (first | (with_reducible first | exact HB.out | apply below_alloc | apply pw_below_drewN | apply below_drew1) | exact HB.out)⟩

/-! ### cutroomref08_component: function 35 -/
mutual
def cutroomref08_component.l0 : Nat → List Int → Int → Int → Int → Int → Int → Int → Int → List Int → Int → Option (List Int)
  | 0, _, _, _, _, _, _, _, _, _, _ => none
  | k + 1, x0, x1, x2, x3, x4, x5, x6, x7, x17, x18 => if x18 < x5 then (cutroomref08_component.l1 k x0 x1 x2 x3 x4 x5 x6 x7 x17 x18 0) else (some x17)
def cutroomref08_component.l1 : Nat → List Int → Int → Int → Int → Int → Int → Int → Int → List Int → Int → Int → Option (List Int)
  | 0, _, _, _, _, _, _, _, _, _, _, _ => none
  | k + 1, x0, x1, x2, x3, x4, x5, x6, x7, x17, x18, x19 => if x19 < x4 then ((cutroomref08_half.f x0 x1 (wrap64 ((wrap64 (2 * (wrap64 (x2 + x19)))) + x6)) (wrap64 ((wrap64 (2 * (wrap64 (x3 + x18)))) + x7))).bind fun t240 => (if x17.length < 140737488355328 then (cutroomref08_component.l1 k x0 x1 x2 x3 x4 x5 x6 x7 (x17 ++ [t240]) x18 (wrap64 (x19 + 1))) else (none))) else (cutroomref08_component.l0 k x0 x1 x2 x3 x4 x5 x6 x7 x17 (wrap64 (x18 + 1)))
end
def cutroomref08_component.f (k : Nat) (l0 : List Int) (a1 : Int) (a2 : Int) (a3 : Int) (a4 : Int) (a5 : Int) (a6 : Int) (a7 : Int) : Option (List Int) := cutroomref08_component.l0 k l0 a1 a2 a3 a4 a5 a6 a7 ([] : List Int) 0
theorem cutroomref08_component.mono_l : ∀ k, (∀ y0 y1 y2 y3 y4 y5 y6 y7 y8 y9, LeO (cutroomref08_component.l0 k y0 y1 y2 y3 y4 y5 y6 y7 y8 y9) (cutroomref08_component.l0 (k + 1) y0 y1 y2 y3 y4 y5 y6 y7 y8 y9)) ∧ (∀ y0 y1 y2 y3 y4 y5 y6 y7 y8 y9 y10, LeO (cutroomref08_component.l1 k y0 y1 y2 y3 y4 y5 y6 y7 y8 y9 y10) (cutroomref08_component.l1 (k + 1) y0 y1 y2 y3 y4 y5 y6 y7 y8 y9 y10))
  | 0 => ⟨fun _ _ _ _ _ _ _ _ _ _ r h => by simp [cutroomref08_component.l0] at h, fun _ _ _ _ _ _ _ _ _ _ _ r h => by simp [cutroomref08_component.l1] at h⟩
  | k + 1 => by
    obtain ⟨ih0, ih1⟩ := cutroomref08_component.mono_l k
    refine ⟨?_, ?_⟩
    · intro y0 y1 y2 y3 y4 y5 y6 y7 y8 y9
      unfold cutroomref08_component.l0
      repeat' first
      | (with_reducible exact ih0 _ _ _ _ _ _ _ _ _ _)
      | (with_reducible exact ih1 _ _ _ _ _ _ _ _ _ _ _)
      | (with_reducible exact LeO.refl _)
      | (with_reducible exact LeO.none _)
      | (with_reducible refine LeO.ite ?_ ?_)
      | (with_reducible refine LeO.bind ?_ (fun _ => ?_))
      | exact ih0 _ _ _ _ _ _ _ _ _ _
      | exact ih1 _ _ _ _ _ _ _ _ _ _ _
      | exact LeO.none _
      | refine LeO.ite ?_ ?_
      | refine LeO.bind ?_ (fun _ => ?_)
    · intro y0 y1 y2 y3 y4 y5 y6 y7 y8 y9 y10
      unfold cutroomref08_component.l1
      repeat' first
      | (with_reducible exact ih0 _ _ _ _ _ _ _ _ _ _)
      | (with_reducible exact ih1 _ _ _ _ _ _ _ _ _ _ _)
      | (with_reducible exact LeO.refl _)
      | (with_reducible exact LeO.none _)
      | (with_reducible refine LeO.ite ?_ ?_)
      | (with_reducible refine LeO.bind ?_ (fun _ => ?_))
      | exact ih0 _ _ _ _ _ _ _ _ _ _
      | exact ih1 _ _ _ _ _ _ _ _ _ _ _
      | exact LeO.none _
      | refine LeO.ite ?_ ?_
      | refine LeO.bind ?_ (fun _ => ?_)
theorem cutroomref08_component.mono : ∀ a0 a1 a2 a3 a4 a5 a6 a7 k, LeO (cutroomref08_component.f k a0 a1 a2 a3 a4 a5 a6 a7) (cutroomref08_component.f (k + 1) a0 a1 a2 a3 a4 a5 a6 a7) := by
  intro a0 a1 a2 a3 a4 a5 a6 a7 k
  obtain ⟨ih0, ih1⟩ := cutroomref08_component.mono_l k
  unfold cutroomref08_component.f
  repeat' first
      | (with_reducible exact ih0 _ _ _ _ _ _ _ _ _ _)
      | (with_reducible exact ih1 _ _ _ _ _ _ _ _ _ _ _)
      | (with_reducible exact LeO.refl _)
      | (with_reducible exact LeO.none _)
      | (with_reducible refine LeO.ite ?_ ?_)
      | (with_reducible refine LeO.bind ?_ (fun _ => ?_))
      | exact ih0 _ _ _ _ _ _ _ _ _ _
      | exact ih1 _ _ _ _ _ _ _ _ _ _ _
      | exact LeO.none _
      | refine LeO.ite ?_ ?_
      | refine LeO.bind ?_ (fun _ => ?_)
set_option maxHeartbeats 8000000 in
set_option maxRecDepth 100000 in
theorem cutroomref08_component.calls (k : Nat) (A0 : Option Addr) (c0 : Nat) (l0 : List Int) (a1 : Int) (a2 : Int) (a3 : Int) (a4 : Int) (a5 : Int) (a6 : Int) (a7 : Int) (r : List Int) (w : World) (hr0 : Kd.C (Kd.int .u8) w A0 l0.length l0) (hc0 : l0.length ≤ c0) (h : cutroomref08_component.f k l0 a1 a2 a3 a4 a5 a6 a7 = some r) :
    Calls Try.prog 35 #[.slice A0 l0.length c0, .int .i64 a1, .int .i64 a2, .int .i64 a3, .int .i64 a4, .int .i64 a5, .int .i64 a6, .int .i64 a7] w fun e w' => ∃ v0_ : Value, e = .returned (v0_) ∧ Kd.R (Kd.int .u8) 5 w' w.heap.size (fun _ => True) v0_ r ∧ Below w.heap.size w w' := by
  have HR0 := Aside0.mk hr0
  have HC0 := Aside0.mk hc0
  clear hr0 hc0
  have HB := Aside0.mk (Below.refl w.heap.size w)
  have H : (cutroomref08_component.l0 k l0 a1 a2 a3 a4 a5 a6 a7 ([] : List Int) 0) = some r := h
  clear h
  have H' := Aside0.mk H
  clear H
  go_enter Try.func35, Try.ntmps35
  go_wp2
  go_loopg [17, 18] k (fun kq v17 v18 w' => ∃ (x17_1 : List Int) (x18_1 : Int), v18 = .int .i64 x18_1 ∧ Aside0 (cutroomref08_component.l0 kq l0 a1 a2 a3 a4 a5 a6 a7 x17_1 x18_1 = some r) ∧ Aside0 (kq ≤ k) ∧ Aside0 (Kd.R (Kd.int .u8) 5 w' w.heap.size (fun _ => True) v17 x17_1) ∧ Aside0 (Below w.heap.size w w'))
  case atStart => exact ⟨(([] : List Int)), (0), (by first | rfl | (simp; done) | (simp [*]; done)), H', ⟨Nat.le_refl _⟩, ⟨by first | exact Kd.R_nil _ _ _ _ _ | exact Kd.N_nil _ _ _ _ _ | exact Kd.V_nil _ _ _ _ _ | exact Kd.Q_nil _ _ _ _ _ | exact Kd.S_nil _ _ _ _ _⟩, ⟨by repeat (first | (with_reducible first | exact HB.out | apply below_alloc | apply pw_below_drewN | apply below_drew1) | exact HB.out)⟩⟩
  case round =>
    clear H'
    try clear p2
    try clear c3
    obtain ⟨x17_1, x18_1, rfl, HA, HK1, HO_17, HB⟩ := hrel
    cases gk with
    | zero => exact absurd HA.out (by simp [cutroomref08_component.l0])
    | succ k1 =>
      have H := HA.out
      clear HA
      simp only [cutroomref08_component.l0] at H
      by_cases c9 : x18_1 < a5
      · rw [if_pos c9] at H
        have c9b0 : decide (x18_1 < a5) = true := decide_eq_true c9
        clear c9
        have H' := Aside0.mk H
        clear H
        go_wp2
        go_loopg [17, 19] k1 (fun kq v17 v19 w' => ∃ (x17_2 : List Int) (x19_2 : Int), v19 = .int .i64 x19_2 ∧ Aside0 (cutroomref08_component.l1 kq l0 a1 a2 a3 a4 a5 a6 a7 x17_2 x18_1 x19_2 = some r) ∧ Aside0 (kq ≤ k1) ∧ Aside0 (Kd.R (Kd.int .u8) 5 w' w.heap.size (fun _ => True) v17 x17_2) ∧ Aside0 (Below w.heap.size w w'))
        case atStart => exact ⟨(x17_1), (0), (by first | rfl | (simp; done) | (simp [*]; done)), H', ⟨Nat.le_refl _⟩, ⟨by (with_reducible repeat (first | apply Kd.R_alloc | apply Kd.R_drewN | apply Kd.R_drew)); exact HO_17.out⟩, ⟨by repeat (first | (with_reducible first | exact HB.out | apply below_alloc | apply pw_below_drewN | apply below_drew1) | exact HB.out)⟩⟩
        case round =>
          clear H'
          try clear p2
          try clear c3
          try clear c9
          try clear c9b0
          try clear p2
          obtain ⟨x17_2, x19_2, rfl, HA, HK2, HO_17, HB⟩ := hrel
          cases gk with
          | zero => exact absurd HA.out (by simp [cutroomref08_component.l1])
          | succ k2 =>
            have H := HA.out
            clear HA
            simp only [cutroomref08_component.l1] at H
            by_cases c10 : x19_2 < a4
            · rw [if_pos c10] at H
              have c10b0 : decide (x19_2 < a4) = true := decide_eq_true c10
              clear c10
              replace H := Option.bind_eq_some_iff.mp H
              obtain ⟨t240, A110, H⟩ := H
              replace H : (if x17_2.length < 140737488355328 then (cutroomref08_component.l1 k2 l0 a1 a2 a3 a4 a5 a6 a7 (x17_2 ++ [t240]) x18_1 (wrap64 (x19_2 + 1))) else (none)) = some r := H
              have A11 := Aside0.mk A110
              clear A110
              by_cases c12 : x17_2.length < 140737488355328
              · rw [if_pos c12] at H
                have LMc12 := Aside0.mk c12
                clear c12
                obtain ⟨y241, hy241⟩ : ∃ y_ : List Int, y_ = (x17_2 ++ [t240]) := ⟨_, rfl⟩
                replace H : (cutroomref08_component.l1 k2 l0 a1 a2 a3 a4 a5 a6 a7 y241 x18_1 (wrap64 (x19_2 + 1))) = some r := by first | (rw [hy241]; with_reducible exact H) | (have H2_ := (Option.bind_some _ _).symm.trans H; rw [hy241]; with_reducible exact H2_) | (have H2_ := (Option.bind_some _ _).symm.trans H; with_reducible exact H2_) | with_reducible exact H | (rw [hy241]; exact H) | exact H
                have Ny241 := Aside0.mk hy241
                clear hy241
                have H' := Aside0.mk H
                clear H
                go_wp2_with (first | ((with_reducible refine gate_callee (f := 47) rfl ?_); refine goesL_ (some 45) rfl rfl Try.func47 (by kernel_rfl) rfl #[.slice A0 l0.length c0, .int .i64 a1, .int .i64 (wrap64 ((wrap64 (2 * (wrap64 (a2 + x19_2)))) + a6)), .int .i64 (wrap64 ((wrap64 (2 * (wrap64 (a3 + x18_1)))) + a7))] rfl (by (try simp only [List.map_toArray, List.map_cons, List.map_nil]); first | done | rfl | (simp only [List.length_drop, List.length_take]; rfl)) ?_; (with_reducible refine (cutroomref08_half.calls _ _ l0 a1 (wrap64 ((wrap64 (2 * (wrap64 (a2 + x19_2)))) + a6)) (wrap64 ((wrap64 (2 * (wrap64 (a3 + x18_1)))) + a7)) t240 _ ?side1 ?side2 A11.out).mono ?_); (case side1 => repeat (first | exact (Kd.C_below HR0.out HB.out) | (with_reducible refine Kd.C_alloc ?_ _) | (with_reducible refine Kd.C_drewN ?_ _) | (with_reducible refine Kd.C_drew ?_))); (case side2 => exact HC0.out); rintro e w13 ⟨rfl, hb⟩; refine ⟨_, rfl, ?_⟩; have n0_ := Aside0.mk (Kd.R_below (by (with_reducible repeat (first | apply Kd.R_alloc | apply Kd.R_drewN | apply Kd.R_drew)); exact HO_17.out) hb); have n1_ := Aside0.mk (below_step (by repeat (first | (with_reducible first | exact HB.out | apply below_alloc | apply pw_below_drewN | apply below_drew1) | exact HB.out)) hb); clear HO_17; clear HB; have HO_17 := n0_; have HB := n1_; clear n0_ n1_; (try clear hb); (try clear hb2); (try clear hk); (try clear hi)) | ((with_reducible refine gate_builtin (b := .append) (xs := #[.tmp 30, .tmp 46]) rfl ?_); at_builtin; refine Kd.R_append (Kd.int .u8) (w0 := w) w.heap.size rfl (.tmp 30) (.tmp 46) 22 5 (.int .u8 0) 1 rfl Try.underlying22 info5 rfl (by decide) (by omega) u17 x17_2 t240 [.int .u8 t240] (fun _ => True) (fun _ => False) rfl rfl ?aP (fun _ hk => hk.elim) ?aF ?aO ?aB ?aS ?aL ?_; (case aP => exact rfl); (case aB => exact (by repeat (first | (with_reducible first | exact HB.out | apply below_alloc | apply pw_below_drewN | apply below_drew1) | exact HB.out))); (case aF => exact (fun _ _ => trivial)); (case aO => exact (by (with_reducible repeat (first | apply Kd.R_alloc | apply Kd.R_drewN | apply Kd.R_drew)); exact HO_17.out)); (case aS => exact (below_size (by repeat (first | (with_reducible first | exact HB.out | apply below_alloc | apply pw_below_drewN | apply below_drew1) | exact HB.out)))); (case aL => have := LMc12.out; omega); intro v242 w14 ho hb hg hat; rw [← Ny241.out] at ho; have n0_ := Aside0.mk (hb); have n1_ := Aside0.mk (ho); clear HB; clear HO_17; have HB := n0_; have HO243 := n1_; clear n0_ n1_; clear ho hb hg hat))
                go_roundg k2
                case measure => have := HK1.out; have := HK2.out; omega
                case rel => exact ⟨(y241), (wrap64 (x19_2 + 1)), (by first | rfl | (simp; done) | (simp [*]; done)), H', ⟨by have := HK1.out; have := HK2.out; omega⟩, ⟨by (with_reducible repeat (first | apply Kd.R_alloc | apply Kd.R_drewN | apply Kd.R_drew)); exact HO243.out⟩, ⟨by repeat (first | (with_reducible first | exact HB.out | apply below_alloc | apply pw_below_drewN | apply below_drew1) | exact HB.out)⟩⟩
              · rw [if_neg c12] at H
                exact absurd H (by simp)
            · rw [if_neg c10] at H
              have c10b0 : decide (x19_2 < a4) = false := decide_eq_false c10
              clear c10
              have H' := Aside0.mk H
              clear H
              go_wp2
              go_roundg k2
              case measure => have := HK1.out; have := HK2.out; omega
              case rel => exact ⟨(x17_2), (wrap64 (x18_1 + 1)), (by first | rfl | (simp; done) | (simp [*]; done)), H', ⟨by have := HK1.out; have := HK2.out; omega⟩, ⟨by (with_reducible repeat (first | apply Kd.R_alloc | apply Kd.R_drewN | apply Kd.R_drew)); exact HO_17.out⟩, ⟨by repeat (first | (with_reducible first | exact HB.out | apply below_alloc | apply pw_below_drewN | apply below_drew1) | exact HB.out)⟩⟩
      · rw [if_neg c9] at H
        have c9b0 : decide (x18_1 < a5) = false := decide_eq_false c9
        clear c9
        obtain rfl := Option.some.inj H
        go_wp2
        go_ret
        exact ⟨_, by first | rfl | (simp [errW_none, errW_some] <;> rfl) | (simp [*, errW_none, errW_some] <;> rfl), by (with_reducible repeat (first | apply Kd.R_alloc | apply Kd.R_drewN | apply Kd.R_drew)); exact HO_17.out, by repeat (first | (with_reducible first | exact HB.out | apply below_alloc | apply pw_below_drewN | apply below_drew1) | exact HB.out)⟩

end Go.Proofs.Ytnihjbcdlgfklaa.PMotionPredicts
