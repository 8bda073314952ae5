-- Written by a program of this session, after the form of the kit's print; each text is checked by Lean alone.
import Derived.Test.YtifemmalcncicaaPRationalMulDivx0
import Derived.Test.YtifemmalcncicaaPRationalMulDivx2
import Derived.Test.YtifemmalcncicaaPRationalMulDivx3
namespace Go.Proofs.Ytifemmalcncicaa.PRationalMulDiv
open Go.RowKit Go.Proofs.YtifemmalcncicaaW.PrintWords Go.Proofs.YtifemmalcncicaaW.PrintLast Go.Proofs.YtifemmalcncicaaW.PrintMore
attribute [local go_sem] max2_int min2_int max_two min_two max_three min_three max_four min_four   -- for this text's walks alone
set_option linter.unusedVariables false
set_option linter.unusedSimpArgs false

/-! ### cutroomref01_mag: function 43 -/
def cutroomref01_mag.f (a0 : Int) : Option (Int) := if a0 < 0 then (some (IntKind.u64.wrap ((IntKind.u64.wrap (wrap64 (-(wrap64 (a0 + 1))))) + 1))) else (some (IntKind.u64.wrap (a0)))
set_option maxHeartbeats 8000000 in
set_option maxRecDepth 100000 in
theorem cutroomref01_mag.calls (a0 : Int) (r : Int) (w : World) (h : cutroomref01_mag.f a0 = some r) :
    Calls Try.prog 43 #[.int .i64 a0] w fun e w' => e = .returned (.int .u64 r) ∧ Drawn0 w w' := by
  have H : (if a0 < 0 then (some (IntKind.u64.wrap ((IntKind.u64.wrap (wrap64 (-(wrap64 (a0 + 1))))) + 1))) else (some (IntKind.u64.wrap (a0)))) = some r := h
  clear h
  by_cases c2 : a0 < 0
  · rw [if_pos c2] at H
    have c2b0 : decide (a0 < 0) = true := decide_eq_true c2
    clear c2
    obtain rfl := Option.some.inj H
    go_enter Try.func43, Try.ntmps43
    go_wp2
    go_ret
    exact ⟨by first | rfl | (simp; done) | (simp [*]; done), by repeat (first | exact Drawn0.refl _ | apply Drawn0.step)⟩
  · rw [if_neg c2] at H
    have c2b0 : decide (a0 < 0) = false := decide_eq_false c2
    clear c2
    obtain rfl := Option.some.inj H
    go_enter Try.func43, Try.ntmps43
    go_wp2
    go_ret
    exact ⟨by first | rfl | (simp; done) | (simp [*]; done), by repeat (first | exact Drawn0.refl _ | apply Drawn0.step)⟩

/-! ### cutroomref01_times: function 48 -/
def cutroomref01_times.f (a0 : Int) (a1 : Int) : Option (Int × Int) := (bits_Mul64.f a0 a1).bind fun bt135 => (some (bt135.1, bt135.2))
set_option maxHeartbeats 8000000 in
set_option maxRecDepth 100000 in
theorem cutroomref01_times.calls (a0 : Int) (a1 : Int) (r1 : Int) (r2 : Int) (w : World) (h : cutroomref01_times.f a0 a1 = some (r1, r2)) :
    Calls Try.prog 48 #[.int .u64 a0, .int .u64 a1] w fun e w' => e = .returned (.agg #[.int .u64 r1, .int .u64 r2]) ∧ Below w.heap.size w w' := by
  have hu58 := Try.underlying58
  have HB := Aside0.mk (Below.refl w.heap.size w)
  have H : ((bits_Mul64.f a0 a1).bind fun bt135 => (some (bt135.1, bt135.2))) = some (r1, r2) := h
  clear h
  replace H := Option.bind_eq_some_iff.mp H
  obtain ⟨⟨t135, t136⟩, A30, H⟩ := H
  replace H : (some (t135, t136)) = some (r1, r2) := H
  have A3 := Aside0.mk A30
  clear A30
  simp only [Option.some.injEq, Prod.mk.injEq] at H
  obtain ⟨rfl, rfl⟩ := H
  go_enter Try.func48, Try.ntmps48
  go_wp2_with (first | ((with_reducible refine gate_dst (N := 4) rfl ?_); refine box_event ?hg (N := 4) ?hd (cs := #[.int .u64 0, .int .u64 0]) (t := 58) ?hr ?_; (case hd => rfl); (case hg => rfl); (case hr => first | (go_simp; done) | (go_simp; rfl)); intro gb134 hg w4 hbox hb; have n0_ := Aside0.mk (below_step (by repeat (first | (with_reducible first | exact HB.out | apply below_alloc | apply pw_below_drewN | apply below_drew1) | exact HB.out)) hb); have n1_ := Aside0.mk (hbox); have n2_ := Aside0.mk ((by rw [hg]; exact (below_size (by repeat (first | (with_reducible first | exact HB.out | apply below_alloc | apply pw_below_drewN | apply below_drew1) | exact HB.out))) : w.heap.size ≤ gb134)); have n3_ := Aside0.mk ((by rw [hg]; exact (below_size (by repeat (first | (with_reducible first | exact HB.out | apply below_alloc | apply pw_below_drewN | apply below_drew1) | exact HB.out))) : w.heap.size ≤ gb134)); clear HB; have HB := n0_; have BK134 := n1_; have GW134 := n2_; have GE134 := n3_; clear n0_ n1_ n2_ n3_; clear hb hbox hg) | ((with_reducible refine gate_callee (f := 61) rfl ?_); refine goesL_ (some 10) rfl rfl Try.func61 (by kernel_rfl) rfl #[.int .u64 a0, .int .u64 a1] rfl (by (try simp only [List.map_toArray, List.map_cons, List.map_nil]); first | done | rfl | (simp only [List.length_drop, List.length_take]; rfl)) ?_; (with_reducible refine (bits_Mul64.calls a0 a1 t135 t136 _ A3.out).mono ?_); rintro e w' ⟨rfl, ⟨nd, rfl⟩⟩; refine ⟨_, rfl, ?_⟩; (try (rw [drewN_self w4]; generalize hq_ : World.drewN w4 _ = w4; have n0_ : Aside0 (w4.heap[gb134]? = some (.cells #[.int .u64 0, .int .u64 0] 58 (0, 0))) := ⟨by rw [← hq_]; exact (by (with_reducible repeat (first | refine blk_drewN ?_ _ | refine blk_drew ?_ | refine blk_alloc ?_ _)); exact BK134.out)⟩; have n1_ : Aside0 (Below w.heap.size w w4) := ⟨by rw [← hq_]; exact (by repeat (first | (with_reducible first | exact HB.out | apply below_alloc | apply pw_below_drewN | apply below_drew1 | refine below_set ?_ GE134.out) | exact HB.out))⟩; clear BK134 HB hq_; have BK134 := n0_; have HB := n1_; clear n0_ n1_)); have hcz5_0 : w4.cell? ⟨gb134, 0, none⟩ = some (.int .u64 0) := (blk_cell BK134.out 0).trans rfl; have hcz5_1 : w4.cell? ⟨gb134, 1, none⟩ = some (.int .u64 0) := (blk_cell BK134.out 1).trans rfl; have hfz5_0 := blk_frozen BK134.out 0; have hfz5_1 := blk_frozen BK134.out 1))
  refine bodyPost_ret (results_cell_row rfl _ _ gb134 58 #[.int .u64 t135, .int .u64 t136] (0, 0) _ rfl (by (with_reducible repeat (first | refine blk_drewN ?_ _ | refine blk_drew ?_ | refine blk_alloc ?_ _)); refine blk_put (cs := #[.int .u64 t135, .int .u64 0]) ?_ 1 _ rfl; (with_reducible repeat (first | refine blk_drewN ?_ _ | refine blk_drew ?_ | refine blk_alloc ?_ _)); refine blk_put (cs := #[.int .u64 0, .int .u64 0]) ?_ 0 _ rfl; (with_reducible repeat (first | refine blk_drewN ?_ _ | refine blk_drew ?_ | refine blk_alloc ?_ _)); exact BK134.out) Try.underlying58 rfl (by kernel_rfl)) rfl ?_
  exact ⟨by first | rfl | (simp [errW_none, errW_some] <;> rfl) | (simp [*, errW_none, errW_some] <;> rfl), by repeat (first | (with_reducible first | exact HB.out | apply below_alloc | apply pw_below_drewN | apply below_drew1 | refine below_set ?_ GE134.out) | exact HB.out)⟩

/-! ### cutroomref01_over: function 51 -/
def cutroomref01_over.f (k : Nat) (a0_0 : Int) (a0_1 : Int) (a1 : Int) : Option (Int × Int × Bool) := if a0_0 ≥ a1 then (some (0, 0, false)) else ((bits_Div64.f k a0_0 a0_1 a1).bind fun bt138 => (some (bt138.1, bt138.2, true)))
theorem cutroomref01_over.mono : ∀ a0 a1 a2 k, LeO (cutroomref01_over.f k a0 a1 a2) (cutroomref01_over.f (k + 1) a0 a1 a2) := by
  intro a0 a1 a2 k
  unfold cutroomref01_over.f
  repeat' first
      | (with_reducible exact bits_Div64.mono _ _ _ _)
      | (with_reducible exact LeO.refl _)
      | (with_reducible exact LeO.none _)
      | (with_reducible refine LeO.ite ?_ ?_)
      | (with_reducible refine LeO.bind ?_ (fun _ => ?_))
      | exact bits_Div64.mono _ _ _ _
      | exact LeO.none _
      | refine LeO.ite ?_ ?_
      | refine LeO.bind ?_ (fun _ => ?_)
set_option maxHeartbeats 8000000 in
set_option maxRecDepth 100000 in
theorem cutroomref01_over.calls (k : Nat) (a0_0 : Int) (a0_1 : Int) (a1 : Int) (r1 : Int) (r2 : Int) (r3 : Bool) (w : World) (h : cutroomref01_over.f k a0_0 a0_1 a1 = some (r1, r2, r3)) :
    Calls Try.prog 51 #[.agg #[.int .u64 a0_0, .int .u64 a0_1], .int .u64 a1] w fun e w' => e = .returned (.tuple #[.int .u64 r1, .int .u64 r2, .bool r3]) ∧ Below w.heap.size w w' := by
  have hu58 := Try.underlying58
  have HB := Aside0.mk (Below.refl w.heap.size w)
  have H : (if a0_0 ≥ a1 then (some (0, 0, false)) else ((bits_Div64.f k a0_0 a0_1 a1).bind fun bt138 => (some (bt138.1, bt138.2, true)))) = some (r1, r2, r3) := h
  clear h
  by_cases c3 : a0_0 ≥ a1
  · rw [if_pos c3] at H
    have c3b0 : decide (a1 ≤ a0_0) = true := decide_eq_true c3
    clear c3
    simp only [Option.some.injEq, Prod.mk.injEq] at H
    obtain ⟨rfl, rfl, rfl⟩ := H
    go_enter Try.func51, Try.ntmps51
    go_wp2_with (first | ((with_reducible refine gate_dst (N := 2) rfl ?_); refine box_event ?hg (N := 2) ?hd (cs := #[.int .u64 a0_0, .int .u64 a0_1]) (t := 58) ?hr ?_; (case hd => rfl); (case hg => rfl); (case hr => first | (go_simp; done) | (go_simp; rfl)); intro gb137 hg w4 hbox hb; have n0_ := Aside0.mk (below_step (by repeat (first | (with_reducible first | exact HB.out | apply below_alloc | apply pw_below_drewN | apply below_drew1) | exact HB.out)) hb); have n1_ := Aside0.mk (hbox); have n2_ := Aside0.mk ((by rw [hg]; exact (below_size (by repeat (first | (with_reducible first | exact HB.out | apply below_alloc | apply pw_below_drewN | apply below_drew1) | exact HB.out))) : w.heap.size ≤ gb137)); have n3_ := Aside0.mk ((by rw [hg]; exact (below_size (by repeat (first | (with_reducible first | exact HB.out | apply below_alloc | apply pw_below_drewN | apply below_drew1) | exact HB.out))) : w.heap.size ≤ gb137)); clear HB; have HB := n0_; have BK137 := n1_; have GW137 := n2_; have GE137 := n3_; clear n0_ n1_ n2_ n3_; clear hb hbox hg; have hcz5_0 : w4.cell? ⟨gb137, 0, none⟩ = some (.int .u64 a0_0) := (blk_cell BK137.out 0).trans rfl; have hcz5_1 : w4.cell? ⟨gb137, 1, none⟩ = some (.int .u64 a0_1) := (blk_cell BK137.out 1).trans rfl; have hfz5_0 := blk_frozen BK137.out 0; have hfz5_1 := blk_frozen BK137.out 1))
    go_ret3
    exact ⟨by first | rfl | (simp [errW_none, errW_some] <;> rfl) | (simp [*, errW_none, errW_some] <;> rfl), by repeat (first | (with_reducible first | exact HB.out | apply below_alloc | apply pw_below_drewN | apply below_drew1 | refine below_set ?_ GE137.out) | exact HB.out)⟩
  · rw [if_neg c3] at H
    have c3b0 : decide (a1 ≤ a0_0) = false := decide_eq_false c3
    clear c3
    replace H := Option.bind_eq_some_iff.mp H
    obtain ⟨⟨t138, t139⟩, A60, H⟩ := H
    replace H : (some (t138, t139, true)) = some (r1, r2, r3) := H
    have A6 := Aside0.mk A60
    clear A60
    simp only [Option.some.injEq, Prod.mk.injEq] at H
    obtain ⟨rfl, rfl, rfl⟩ := H
    go_enter Try.func51, Try.ntmps51
    go_wp2_with (first | ((with_reducible refine gate_dst (N := 2) rfl ?_); refine box_event ?hg (N := 2) ?hd (cs := #[.int .u64 a0_0, .int .u64 a0_1]) (t := 58) ?hr ?_; (case hd => rfl); (case hg => rfl); (case hr => first | (go_simp; done) | (go_simp; rfl)); intro gb137 hg w7 hbox hb; have n0_ := Aside0.mk (below_step (by repeat (first | (with_reducible first | exact HB.out | apply below_alloc | apply pw_below_drewN | apply below_drew1) | exact HB.out)) hb); have n1_ := Aside0.mk (hbox); have n2_ := Aside0.mk ((by rw [hg]; exact (below_size (by repeat (first | (with_reducible first | exact HB.out | apply below_alloc | apply pw_below_drewN | apply below_drew1) | exact HB.out))) : w.heap.size ≤ gb137)); have n3_ := Aside0.mk ((by rw [hg]; exact (below_size (by repeat (first | (with_reducible first | exact HB.out | apply below_alloc | apply pw_below_drewN | apply below_drew1) | exact HB.out))) : w.heap.size ≤ gb137)); clear HB; have HB := n0_; have BK137 := n1_; have GW137 := n2_; have GE137 := n3_; clear n0_ n1_ n2_ n3_; clear hb hbox hg; have hcz8_0 : w7.cell? ⟨gb137, 0, none⟩ = some (.int .u64 a0_0) := (blk_cell BK137.out 0).trans rfl; have hcz8_1 : w7.cell? ⟨gb137, 1, none⟩ = some (.int .u64 a0_1) := (blk_cell BK137.out 1).trans rfl; have hfz8_0 := blk_frozen BK137.out 0; have hfz8_1 := blk_frozen BK137.out 1) | ((with_reducible refine gate_callee (f := 60) rfl ?_); refine goesL_ (some 19) rfl rfl Try.func60 (by kernel_rfl) rfl #[.int .u64 a0_0, .int .u64 a0_1, .int .u64 a1] rfl (by (try simp only [List.map_toArray, List.map_cons, List.map_nil]); first | done | rfl | (simp only [List.length_drop, List.length_take]; rfl)) ?_; (with_reducible refine (bits_Div64.calls k a0_0 a0_1 a1 t138 t139 _ A6.out).mono ?_); rintro e w' ⟨rfl, ⟨nd, rfl⟩⟩; refine ⟨_, rfl, ?_⟩))
    go_ret3
    exact ⟨by first | rfl | (simp [errW_none, errW_some] <;> rfl) | (simp [*, errW_none, errW_some] <;> rfl), by repeat (first | (with_reducible first | exact HB.out | apply below_alloc | apply pw_below_drewN | apply below_drew1 | refine below_set ?_ GE137.out) | exact HB.out)⟩

/-! ### cutroomref01_signed: function 52 -/
def cutroomref01_signed.f (a0 : Bool) (a1 : Int) : Option (Int × Bool) := if a0 = true then (if a1 = 9223372036854775808 then (some ((-9223372036854775808), true)) else (some (wrap64 (-(wrap64 (a1))), decide (a1 ≤ 9223372036854775807)))) else (some (wrap64 (a1), decide (a1 ≤ 9223372036854775807)))
set_option maxHeartbeats 8000000 in
set_option maxRecDepth 100000 in
theorem cutroomref01_signed.calls (a0 : Bool) (a1 : Int) (r1 : Int) (r2 : Bool) (w : World) (h : cutroomref01_signed.f a0 a1 = some (r1, r2)) :
    Calls Try.prog 52 #[.bool a0, .int .u64 a1] w fun e w' => e = .returned (.tuple #[.int .i64 r1, .bool r2]) ∧ Drawn0 w w' := by
  have H : (if a0 = true then (if a1 = 9223372036854775808 then (some ((-9223372036854775808), true)) else (some (wrap64 (-(wrap64 (a1))), decide (a1 ≤ 9223372036854775807)))) else (some (wrap64 (a1), decide (a1 ≤ 9223372036854775807)))) = some (r1, r2) := h
  clear h
  by_cases c3 : a0 = true
  · subst c3
    have H1 : (if a1 = 9223372036854775808 then (some ((-9223372036854775808), true)) else (some (wrap64 (-(wrap64 (a1))), decide (a1 ≤ 9223372036854775807)))) = some (r1, r2) := by rw [if_pos rfl] at H; exact H
    clear H
    have H := H1
    clear H1
    by_cases c4 : a1 = 9223372036854775808
    · rw [if_pos c4] at H
      have c4b0 : (a1 == 9223372036854775808) = true := beq_iff_eq.mpr c4
      have c4b1 : (a1 != 9223372036854775808) = false := bne_eq_false_iff_eq.mpr c4
      clear c4
      simp only [Option.some.injEq, Prod.mk.injEq] at H
      obtain ⟨rfl, rfl⟩ := H
      go_enter Try.func52, Try.ntmps52
      go_wp2
      go_ret2
      exact ⟨by first | rfl | (simp; done) | (simp [*]; done), by repeat (first | exact Drawn0.refl _ | apply Drawn0.step)⟩
    · rw [if_neg c4] at H
      have c4b0 : (a1 == 9223372036854775808) = false := beq_eq_false_iff_ne.mpr c4
      have c4b1 : (a1 != 9223372036854775808) = true := bne_iff_ne.mpr c4
      simp only [Option.some.injEq, Prod.mk.injEq] at H
      obtain ⟨rfl, rfl⟩ := H
      go_enter Try.func52, Try.ntmps52
      go_wp2
      go_ret2
      exact ⟨by first | rfl | (simp; done) | (simp [*]; done), by repeat (first | exact Drawn0.refl _ | apply Drawn0.step)⟩
  · replace c3 := Bool.eq_false_iff.mpr c3
    subst c3
    have H1 : (some (wrap64 (a1), decide (a1 ≤ 9223372036854775807))) = some (r1, r2) := by rw [if_neg (show ¬ (false = true) by decide)] at H; exact H
    clear H
    have H := H1
    clear H1
    simp only [Option.some.injEq, Prod.mk.injEq] at H
    obtain ⟨rfl, rfl⟩ := H
    go_enter Try.func52, Try.ntmps52
    go_wp2
    go_ret2
    exact ⟨by first | rfl | (simp; done) | (simp [*]; done), by repeat (first | exact Drawn0.refl _ | apply Drawn0.step)⟩

/-! ### cutroomref01_MulDiv: function 26 -/
mutual
def cutroomref01_MulDiv.j0 : Nat → Int → Int → Int → Int → Int → Bool → Option (Int × Int × Int)
  | 0, _, _, _, _, _, _ => none
  | k + 1, x0, x1, x2, x9, x10, x33 => if x33 = true then (some (0, 0, 2)) else (if ((decide (x0 < 0)) != (decide (x1 < 0))) = true then (cutroomref01_MulDiv.j1 k x2 x9 x10 ((decide (x0 < 0)) != (decide (x1 < 0))) (decide (x10 > 0))) else (cutroomref01_MulDiv.j1 k x2 x9 x10 ((decide (x0 < 0)) != (decide (x1 < 0))) false))
def cutroomref01_MulDiv.j1 : Nat → Int → Int → Int → Bool → Bool → Option (Int × Int × Int)
  | 0, _, _, _, _, _ => none
  | k + 1, x2, x9, x10, x12, x43 => if x43 = true then ((cutroomref01_signed.f x12 (IntKind.u64.wrap (x9 + 1))).bind fun bt147 => (if bt147.2 = true then (some (bt147.1, wrap64 (IntKind.u64.wrap ((IntKind.u64.wrap (x2)) - x10)), 0)) else (some (0, 0, 2)))) else ((cutroomref01_signed.f x12 x9).bind fun bt149 => (if bt149.2 = true then (some (bt149.1, wrap64 (x10), 0)) else (some (0, 0, 2))))
end
def cutroomref01_MulDiv.f (k : Nat) (a0 : Int) (a1 : Int) (a2 : Int) : Option (Int × Int × Int) := if a2 < 1 then (some (0, 0, 1)) else ((cutroomref01_mag.f a0).bind fun t140 => ((cutroomref01_mag.f a1).bind fun t141 => ((cutroomref01_times.f t140 t141).bind fun bt142 => ((cutroomref01_over.f k bt142.1 bt142.2 (IntKind.u64.wrap (a2))).bind fun bt144 => (if bt144.2.2 = true then (cutroomref01_MulDiv.j0 k a0 a1 a2 bt144.1 bt144.2.1 (decide (bt144.1 > 9223372036854775808))) else (cutroomref01_MulDiv.j0 k a0 a1 a2 bt144.1 bt144.2.1 true))))))
theorem cutroomref01_MulDiv.mono_l : ∀ k, (∀ y0 y1 y2 y3 y4 y5, LeO (cutroomref01_MulDiv.j0 k y0 y1 y2 y3 y4 y5) (cutroomref01_MulDiv.j0 (k + 1) y0 y1 y2 y3 y4 y5)) ∧ (∀ y0 y1 y2 y3 y4, LeO (cutroomref01_MulDiv.j1 k y0 y1 y2 y3 y4) (cutroomref01_MulDiv.j1 (k + 1) y0 y1 y2 y3 y4))
  | 0 => ⟨fun _ _ _ _ _ _ r h => by simp [cutroomref01_MulDiv.j0] at h, fun _ _ _ _ _ r h => by simp [cutroomref01_MulDiv.j1] at h⟩
  | k + 1 => by
    obtain ⟨ih0, ih1⟩ := cutroomref01_MulDiv.mono_l k
    refine ⟨?_, ?_⟩
    · intro y0 y1 y2 y3 y4 y5
      unfold cutroomref01_MulDiv.j0
      repeat' first
      | (with_reducible exact ih0 _ _ _ _ _ _)
      | (with_reducible exact ih1 _ _ _ _ _)
      | (with_reducible exact cutroomref01_over.mono _ _ _ _)
      | (with_reducible exact LeO.refl _)
      | (with_reducible exact LeO.none _)
      | (with_reducible refine LeO.ite ?_ ?_)
      | (with_reducible refine LeO.bind ?_ (fun _ => ?_))
      | exact ih0 _ _ _ _ _ _
      | exact ih1 _ _ _ _ _
      | exact cutroomref01_over.mono _ _ _ _
      | exact LeO.none _
      | refine LeO.ite ?_ ?_
      | refine LeO.bind ?_ (fun _ => ?_)
    · intro y0 y1 y2 y3 y4
      unfold cutroomref01_MulDiv.j1
      repeat' first
      | (with_reducible exact ih0 _ _ _ _ _ _)
      | (with_reducible exact ih1 _ _ _ _ _)
      | (with_reducible exact cutroomref01_over.mono _ _ _ _)
      | (with_reducible exact LeO.refl _)
      | (with_reducible exact LeO.none _)
      | (with_reducible refine LeO.ite ?_ ?_)
      | (with_reducible refine LeO.bind ?_ (fun _ => ?_))
      | exact ih0 _ _ _ _ _ _
      | exact ih1 _ _ _ _ _
      | exact cutroomref01_over.mono _ _ _ _
      | exact LeO.none _
      | refine LeO.ite ?_ ?_
      | refine LeO.bind ?_ (fun _ => ?_)
theorem cutroomref01_MulDiv.mono : ∀ a0 a1 a2 k, LeO (cutroomref01_MulDiv.f k a0 a1 a2) (cutroomref01_MulDiv.f (k + 1) a0 a1 a2) := by
  intro a0 a1 a2 k
  obtain ⟨ih0, ih1⟩ := cutroomref01_MulDiv.mono_l k
  unfold cutroomref01_MulDiv.f
  repeat' first
      | (with_reducible exact ih0 _ _ _ _ _ _)
      | (with_reducible exact ih1 _ _ _ _ _)
      | (with_reducible exact cutroomref01_over.mono _ _ _ _)
      | (with_reducible exact LeO.refl _)
      | (with_reducible exact LeO.none _)
      | (with_reducible refine LeO.ite ?_ ?_)
      | (with_reducible refine LeO.bind ?_ (fun _ => ?_))
      | exact ih0 _ _ _ _ _ _
      | exact ih1 _ _ _ _ _
      | exact cutroomref01_over.mono _ _ _ _
      | exact LeO.none _
      | refine LeO.ite ?_ ?_
      | refine LeO.bind ?_ (fun _ => ?_)
set_option maxHeartbeats 8000000 in
set_option maxRecDepth 100000 in
theorem cutroomref01_MulDiv.calls (k : Nat) (a0 : Int) (a1 : Int) (a2 : Int) (r1 : Int) (r2 : Int) (r3 : Int) (w : World) (h : cutroomref01_MulDiv.f k a0 a1 a2 = some (r1, r2, r3)) :
    Calls Try.prog 26 #[.int .i64 a0, .int .i64 a1, .int .i64 a2] w fun e w' => e = .returned (.tuple #[.int .i64 r1, .int .i64 r2, .int .i64 r3]) ∧ Below w.heap.size w w' := by
  have HB := Aside0.mk (Below.refl w.heap.size w)
  have H : (if a2 < 1 then (some (0, 0, 1)) else ((cutroomref01_mag.f a0).bind fun t140 => ((cutroomref01_mag.f a1).bind fun t141 => ((cutroomref01_times.f t140 t141).bind fun bt142 => ((cutroomref01_over.f k bt142.1 bt142.2 (IntKind.u64.wrap (a2))).bind fun bt144 => (if bt144.2.2 = true then (cutroomref01_MulDiv.j0 k a0 a1 a2 bt144.1 bt144.2.1 (decide (bt144.1 > 9223372036854775808))) else (cutroomref01_MulDiv.j0 k a0 a1 a2 bt144.1 bt144.2.1 true))))))) = some (r1, r2, r3) := h
  clear h
  by_cases c4 : a2 < 1
  · rw [if_pos c4] at H
    have c4b0 : decide (a2 < 1) = true := decide_eq_true c4
    clear c4
    simp only [Option.some.injEq, Prod.mk.injEq] at H
    obtain ⟨rfl, rfl, rfl⟩ := H
    go_enter Try.func26, Try.ntmps26
    go_wp2
    go_ret3
    exact ⟨by first | rfl | (simp [errW_none, errW_some] <;> rfl) | (simp [*, errW_none, errW_some] <;> rfl), by repeat (first | (with_reducible first | exact HB.out | apply below_alloc | apply pw_below_drewN | apply below_drew1) | exact HB.out)⟩
  · rw [if_neg c4] at H
    have c4b0 : decide (a2 < 1) = false := decide_eq_false c4
    clear c4
    replace H := Option.bind_eq_some_iff.mp H
    obtain ⟨t140, A50, H⟩ := H
    replace H : ((cutroomref01_mag.f a1).bind fun t141 => ((cutroomref01_times.f t140 t141).bind fun bt142 => ((cutroomref01_over.f k bt142.1 bt142.2 (IntKind.u64.wrap (a2))).bind fun bt144 => (if bt144.2.2 = true then (cutroomref01_MulDiv.j0 k a0 a1 a2 bt144.1 bt144.2.1 (decide (bt144.1 > 9223372036854775808))) else (cutroomref01_MulDiv.j0 k a0 a1 a2 bt144.1 bt144.2.1 true))))) = some (r1, r2, r3) := H
    have A5 := Aside0.mk A50
    clear A50
    replace H := Option.bind_eq_some_iff.mp H
    obtain ⟨t141, A60, H⟩ := H
    replace H : ((cutroomref01_times.f t140 t141).bind fun bt142 => ((cutroomref01_over.f k bt142.1 bt142.2 (IntKind.u64.wrap (a2))).bind fun bt144 => (if bt144.2.2 = true then (cutroomref01_MulDiv.j0 k a0 a1 a2 bt144.1 bt144.2.1 (decide (bt144.1 > 9223372036854775808))) else (cutroomref01_MulDiv.j0 k a0 a1 a2 bt144.1 bt144.2.1 true)))) = some (r1, r2, r3) := H
    have A6 := Aside0.mk A60
    clear A60
    replace H := Option.bind_eq_some_iff.mp H
    obtain ⟨⟨t142, t143⟩, A70, H⟩ := H
    replace H : ((cutroomref01_over.f k t142 t143 (IntKind.u64.wrap (a2))).bind fun bt144 => (if bt144.2.2 = true then (cutroomref01_MulDiv.j0 k a0 a1 a2 bt144.1 bt144.2.1 (decide (bt144.1 > 9223372036854775808))) else (cutroomref01_MulDiv.j0 k a0 a1 a2 bt144.1 bt144.2.1 true))) = some (r1, r2, r3) := H
    have A7 := Aside0.mk A70
    clear A70
    replace H := Option.bind_eq_some_iff.mp H
    obtain ⟨⟨t144, t145, t146⟩, A80, H⟩ := H
    replace H : (if t146 = true then (cutroomref01_MulDiv.j0 k a0 a1 a2 t144 t145 (decide (t144 > 9223372036854775808))) else (cutroomref01_MulDiv.j0 k a0 a1 a2 t144 t145 true)) = some (r1, r2, r3) := H
    have A8 := Aside0.mk A80
    clear A80
    have HC9 := Aside0.mk H
    clear H
    go_enter Try.func26, Try.ntmps26
    go_upto_region 4 with (first | ((with_reducible refine gate_callee (f := 43) rfl ?_); refine goesL_ (some 18) rfl rfl Try.func43 (by kernel_rfl) rfl #[.int .i64 a0] rfl (by (try simp only [List.map_toArray, List.map_cons, List.map_nil]); first | done | rfl | (simp only [List.length_drop, List.length_take]; rfl)) ?_; (with_reducible refine (cutroomref01_mag.calls a0 t140 _ A5.out).mono ?_); rintro e w' ⟨rfl, ⟨nd, rfl⟩⟩; refine ⟨_, rfl, ?_⟩) | ((with_reducible refine gate_callee (f := 43) rfl ?_); refine goesL_ (some 20) rfl rfl Try.func43 (by kernel_rfl) rfl #[.int .i64 a1] rfl (by (try simp only [List.map_toArray, List.map_cons, List.map_nil]); first | done | rfl | (simp only [List.length_drop, List.length_take]; rfl)) ?_; (with_reducible refine (cutroomref01_mag.calls a1 t141 _ A6.out).mono ?_); rintro e w' ⟨rfl, ⟨nd, rfl⟩⟩; refine ⟨_, rfl, ?_⟩) | ((with_reducible refine gate_callee (f := 48) rfl ?_); refine goesL_ (some 21) rfl rfl Try.func48 (by kernel_rfl) rfl #[.int .u64 t140, .int .u64 t141] rfl (by (try simp only [List.map_toArray, List.map_cons, List.map_nil]); first | done | rfl | (simp only [List.length_drop, List.length_take]; rfl)) ?_; (with_reducible refine (cutroomref01_times.calls t140 t141 t142 t143 _ A7.out).mono ?_); rintro e w10 ⟨rfl, hb⟩; refine ⟨_, rfl, ?_⟩; have n0_ := Aside0.mk (below_step (by repeat (first | (with_reducible first | exact HB.out | apply below_alloc | apply pw_below_drewN | apply below_drew1) | exact HB.out)) hb); clear HB; have HB := n0_; clear n0_; (try clear hb); (try clear hb2); (try clear hk); (try clear hi)) | ((with_reducible refine gate_callee (f := 51) rfl ?_); refine goesL_ (some 24) rfl rfl Try.func51 (by kernel_rfl) rfl #[.agg #[.int .u64 t142, .int .u64 t143], .int .u64 (IntKind.u64.wrap (a2))] rfl (by (try simp only [List.map_toArray, List.map_cons, List.map_nil]); first | done | rfl | (simp only [List.length_drop, List.length_take]; rfl)) ?_; (with_reducible refine (cutroomref01_over.calls k t142 t143 (IntKind.u64.wrap (a2)) t144 t145 t146 _ A8.out).mono ?_); rintro e w11 ⟨rfl, hb⟩; refine ⟨_, rfl, ?_⟩; have n0_ := Aside0.mk (below_step (by repeat (first | (with_reducible first | exact HB.out | apply below_alloc | apply pw_below_drewN | apply below_drew1) | exact HB.out)) hb); clear HB; have HB := n0_; clear n0_; (try clear hb); (try clear hb2); (try clear hk); (try clear hi)))
    (try simp only [Act.put, List.setIfInBounds_toArray, List.set_cons_zero, List.set_cons_succ])
    go_cut [33] (fun v33 wc => ∃ (kq : Nat) (x33_8 : Bool), v33 = .bool x33_8 ∧ Aside0 (cutroomref01_MulDiv.j0 kq a0 a1 a2 t144 t145 x33_8 = some (r1, r2, r3)) ∧ Aside0 (kq ≤ k) ∧ Aside0 (Below w.heap.size w wc))
    case first =>
      have H := HC9.out
      clear HC9
      by_cases c12 : t146 = true
      · subst c12
        have H1 : (cutroomref01_MulDiv.j0 k a0 a1 a2 t144 t145 (decide (t144 > 9223372036854775808))) = some (r1, r2, r3) := by rw [if_pos rfl] at H; exact H
        clear H
        have H := H1
        clear H1
        have H' := Aside0.mk H
        clear H
        go_wp2
        go_meet
        case rel => exact ⟨_, (decide (t144 > 9223372036854775808)), (by first | rfl | (simp; done) | (simp [*]; done)), H', ⟨by first | omega | exact Nat.le_refl _⟩, ⟨by repeat (first | (with_reducible first | exact HB.out | apply below_alloc | apply pw_below_drewN | apply below_drew1) | exact HB.out)⟩⟩
      · replace c12 := Bool.eq_false_iff.mpr c12
        subst c12
        have H1 : (cutroomref01_MulDiv.j0 k a0 a1 a2 t144 t145 true) = some (r1, r2, r3) := by rw [if_neg (show ¬ (false = true) by decide)] at H; exact H
        clear H
        have H := H1
        clear H1
        have H' := Aside0.mk H
        clear H
        go_wp2
        go_meet
        case rel => exact ⟨_, (true), (by first | rfl | (simp; done) | (simp [*]; done)), H', ⟨by first | omega | exact Nat.le_refl _⟩, ⟨by repeat (first | (with_reducible first | exact HB.out | apply below_alloc | apply pw_below_drewN | apply below_drew1) | exact HB.out)⟩⟩
    case rest =>
      clear HC9
      try clear c1
      try clear c2
      try clear p2
      try clear c4
      try clear c4b0
      try clear c5
      try clear c12
      obtain ⟨kq, x33_8, rfl, HA, HJ8, HB⟩ := hcut
      cases kq with
      | zero => exact absurd HA.out (by simp [cutroomref01_MulDiv.j0])
      | succ kj8 =>
        have H := HA.out
        clear HA
        simp only [cutroomref01_MulDiv.j0] at H
        by_cases c13 : x33_8 = true
        · subst c13
          have H1 : (some (0, 0, 2)) = some (r1, r2, r3) := by rw [if_pos rfl] at H; exact H
          clear H
          have H := H1
          clear H1
          simp only [Option.some.injEq, Prod.mk.injEq] at H
          obtain ⟨rfl, rfl, rfl⟩ := H
          go_wp2
          go_ret3
          exact ⟨by first | rfl | (simp [errW_none, errW_some] <;> rfl) | (simp [*, errW_none, errW_some] <;> rfl), by repeat (first | (with_reducible first | exact HB.out | apply below_alloc | apply pw_below_drewN | apply below_drew1) | exact HB.out)⟩
        · replace c13 := Bool.eq_false_iff.mpr c13
          subst c13
          have H1 : (if ((decide (a0 < 0)) != (decide (a1 < 0))) = true then (cutroomref01_MulDiv.j1 kj8 a2 t144 t145 ((decide (a0 < 0)) != (decide (a1 < 0))) (decide (t145 > 0))) else (cutroomref01_MulDiv.j1 kj8 a2 t144 t145 ((decide (a0 < 0)) != (decide (a1 < 0))) false)) = some (r1, r2, r3) := by rw [if_neg (show ¬ (false = true) by decide)] at H; exact H
          clear H
          have H := H1
          clear H1
          have HC14 := Aside0.mk H
          clear H
          go_upto_region 7 with (fail)
          go_cut [12, 43] (fun v12 v43 wc => ∃ (kq : Nat) (x12_13 : Bool) (x43_13 : Bool), v12 = .bool x12_13 ∧ v43 = .bool x43_13 ∧ Aside0 (cutroomref01_MulDiv.j1 kq a2 t144 t145 x12_13 x43_13 = some (r1, r2, r3)) ∧ Aside0 (kq ≤ kj8) ∧ Aside0 (Below w.heap.size w wc))
          case first =>
            have H := HC14.out
            clear HC14
            by_cases c15 : ((decide (a0 < 0)) != (decide (a1 < 0))) = true
            · rw [if_pos c15] at H
              have c15b0 : ((decide (a0 < 0)) != (decide (a1 < 0))) = true := c15
              (try (have c15b1 : decide ((decide (a0 < 0)) = (decide (a1 < 0))) = false := by simpa using c15))
              (try (have c15b2 : ((decide (a0 < 0)) == (decide (a1 < 0))) = false := by simpa using c15))
              (try (have c15b3 : ¬ ((decide (a0 < 0)) = (decide (a1 < 0))) := by simpa using c15))
              clear c15
              (first | rw [c15b0] | (simp only [i64_w, i32_w]; rw [c15b0]) | skip)
              have H' := Aside0.mk H
              clear H
              go_wp2
              go_meet
              case rel => exact ⟨_, (((decide (a0 < 0)) != (decide (a1 < 0)))), (decide (t145 > 0)), (by first | rfl | (simp; done) | (simp [*]; done)), (by first | rfl | (simp; done) | (simp [*]; done)), H', ⟨by have := HJ8.out; first | omega | exact Nat.le_refl _⟩, ⟨by repeat (first | (with_reducible first | exact HB.out | apply below_alloc | apply pw_below_drewN | apply below_drew1) | exact HB.out)⟩⟩
            · rw [if_neg c15] at H
              have c15b0 : ((decide (a0 < 0)) != (decide (a1 < 0))) = false := by simpa using c15
              (try (have c15b1 : decide ((decide (a0 < 0)) = (decide (a1 < 0))) = true := by simpa using c15))
              (try (have c15b2 : ((decide (a0 < 0)) == (decide (a1 < 0))) = true := by simpa using c15))
              clear c15
              (first | rw [c15b0] | (simp only [i64_w, i32_w]; rw [c15b0]) | skip)
              have H' := Aside0.mk H
              clear H
              go_wp2
              go_meet
              case rel => exact ⟨_, (((decide (a0 < 0)) != (decide (a1 < 0)))), (false), (by first | rfl | (simp; done) | (simp [*]; done)), (by first | rfl | (simp; done) | (simp [*]; done)), H', ⟨by have := HJ8.out; first | omega | exact Nat.le_refl _⟩, ⟨by repeat (first | (with_reducible first | exact HB.out | apply below_alloc | apply pw_below_drewN | apply below_drew1) | exact HB.out)⟩⟩
          case rest =>
            clear HC14
            try clear c1
            try clear c2
            try clear p2
            try clear c4
            try clear c4b0
            try clear c5
            try clear c12
            try clear c13
            try clear c15
            try clear c15b0
            try clear c15b1
            try clear c15b2
            try clear p2
            obtain ⟨kq, x12_13, x43_13, rfl, rfl, HA, HJ13, HB⟩ := hcut
            cases kq with
            | zero => exact absurd HA.out (by simp [cutroomref01_MulDiv.j1])
            | succ kj13 =>
              have H := HA.out
              clear HA
              simp only [cutroomref01_MulDiv.j1] at H
              by_cases c16 : x43_13 = true
              · subst c16
                have H1 : ((cutroomref01_signed.f x12_13 (IntKind.u64.wrap (t144 + 1))).bind fun bt147 => (if bt147.2 = true then (some (bt147.1, wrap64 (IntKind.u64.wrap ((IntKind.u64.wrap (a2)) - t145)), 0)) else (some (0, 0, 2)))) = some (r1, r2, r3) := by rw [if_pos rfl] at H; exact H
                clear H
                have H := H1
                clear H1
                replace H := Option.bind_eq_some_iff.mp H
                obtain ⟨⟨t147, t148⟩, A170, H⟩ := H
                replace H : (if t148 = true then (some (t147, wrap64 (IntKind.u64.wrap ((IntKind.u64.wrap (a2)) - t145)), 0)) else (some (0, 0, 2))) = some (r1, r2, r3) := H
                have A17 := Aside0.mk A170
                clear A170
                by_cases c18 : t148 = true
                · subst c18
                  have H1 : (some (t147, wrap64 (IntKind.u64.wrap ((IntKind.u64.wrap (a2)) - t145)), 0)) = some (r1, r2, r3) := by rw [if_pos rfl] at H; exact H
                  clear H
                  have H := H1
                  clear H1
                  simp only [Option.some.injEq, Prod.mk.injEq] at H
                  obtain ⟨rfl, rfl, rfl⟩ := H
                  go_wp2_with (first | ((with_reducible refine gate_callee (f := 52) rfl ?_); refine goesL_ (some 53) rfl rfl Try.func52 (by kernel_rfl) rfl #[.bool x12_13, .int .u64 (IntKind.u64.wrap (t144 + 1))] rfl (by (try simp only [List.map_toArray, List.map_cons, List.map_nil]); first | done | rfl | (simp only [List.length_drop, List.length_take]; rfl)) ?_; (with_reducible refine (cutroomref01_signed.calls x12_13 (IntKind.u64.wrap (t144 + 1)) t147 true _ A17.out).mono ?_); rintro e w' ⟨rfl, ⟨nd, rfl⟩⟩; refine ⟨_, rfl, ?_⟩))
                  go_ret3
                  exact ⟨by first | rfl | (simp [errW_none, errW_some] <;> rfl) | (simp [*, errW_none, errW_some] <;> rfl), by repeat (first | (with_reducible first | exact HB.out | apply below_alloc | apply pw_below_drewN | apply below_drew1) | exact HB.out)⟩
                · replace c18 := Bool.eq_false_iff.mpr c18
                  subst c18
                  have H1 : (some (0, 0, 2)) = some (r1, r2, r3) := by rw [if_neg (show ¬ (false = true) by decide)] at H; exact H
                  clear H
                  have H := H1
                  clear H1
                  simp only [Option.some.injEq, Prod.mk.injEq] at H
                  obtain ⟨rfl, rfl, rfl⟩ := H
                  go_wp2_with (first | ((with_reducible refine gate_callee (f := 52) rfl ?_); refine goesL_ (some 53) rfl rfl Try.func52 (by kernel_rfl) rfl #[.bool x12_13, .int .u64 (IntKind.u64.wrap (t144 + 1))] rfl (by (try simp only [List.map_toArray, List.map_cons, List.map_nil]); first | done | rfl | (simp only [List.length_drop, List.length_take]; rfl)) ?_; (with_reducible refine (cutroomref01_signed.calls x12_13 (IntKind.u64.wrap (t144 + 1)) t147 false _ A17.out).mono ?_); rintro e w' ⟨rfl, ⟨nd, rfl⟩⟩; refine ⟨_, rfl, ?_⟩))
                  go_ret3
                  exact ⟨by first | rfl | (simp [errW_none, errW_some] <;> rfl) | (simp [*, errW_none, errW_some] <;> rfl), by repeat (first | (with_reducible first | exact HB.out | apply below_alloc | apply pw_below_drewN | apply below_drew1) | exact HB.out)⟩
              · replace c16 := Bool.eq_false_iff.mpr c16
                subst c16
                have H1 : ((cutroomref01_signed.f x12_13 t144).bind fun bt149 => (if bt149.2 = true then (some (bt149.1, wrap64 (t145), 0)) else (some (0, 0, 2)))) = some (r1, r2, r3) := by rw [if_neg (show ¬ (false = true) by decide)] at H; exact H
                clear H
                have H := H1
                clear H1
                replace H := Option.bind_eq_some_iff.mp H
                obtain ⟨⟨t149, t150⟩, A190, H⟩ := H
                replace H : (if t150 = true then (some (t149, wrap64 (t145), 0)) else (some (0, 0, 2))) = some (r1, r2, r3) := H
                have A19 := Aside0.mk A190
                clear A190
                by_cases c20 : t150 = true
                · subst c20
                  have H1 : (some (t149, wrap64 (t145), 0)) = some (r1, r2, r3) := by rw [if_pos rfl] at H; exact H
                  clear H
                  have H := H1
                  clear H1
                  simp only [Option.some.injEq, Prod.mk.injEq] at H
                  obtain ⟨rfl, rfl, rfl⟩ := H
                  go_wp2_with (first | ((with_reducible refine gate_callee (f := 52) rfl ?_); refine goesL_ (some 53) rfl rfl Try.func52 (by kernel_rfl) rfl #[.bool x12_13, .int .u64 t144] rfl (by (try simp only [List.map_toArray, List.map_cons, List.map_nil]); first | done | rfl | (simp only [List.length_drop, List.length_take]; rfl)) ?_; (with_reducible refine (cutroomref01_signed.calls x12_13 t144 t149 true _ A19.out).mono ?_); rintro e w' ⟨rfl, ⟨nd, rfl⟩⟩; refine ⟨_, rfl, ?_⟩))
                  go_ret3
                  exact ⟨by first | rfl | (simp [errW_none, errW_some] <;> rfl) | (simp [*, errW_none, errW_some] <;> rfl), by repeat (first | (with_reducible first | exact HB.out | apply below_alloc | apply pw_below_drewN | apply below_drew1) | exact HB.out)⟩
                · replace c20 := Bool.eq_false_iff.mpr c20
                  subst c20
                  have H1 : (some (0, 0, 2)) = some (r1, r2, r3) := by rw [if_neg (show ¬ (false = true) by decide)] at H; exact H
                  clear H
                  have H := H1
                  clear H1
                  simp only [Option.some.injEq, Prod.mk.injEq] at H
                  obtain ⟨rfl, rfl, rfl⟩ := H
                  go_wp2_with (first | ((with_reducible refine gate_callee (f := 52) rfl ?_); refine goesL_ (some 53) rfl rfl Try.func52 (by kernel_rfl) rfl #[.bool x12_13, .int .u64 t144] rfl (by (try simp only [List.map_toArray, List.map_cons, List.map_nil]); first | done | rfl | (simp only [List.length_drop, List.length_take]; rfl)) ?_; (with_reducible refine (cutroomref01_signed.calls x12_13 t144 t149 false _ A19.out).mono ?_); rintro e w' ⟨rfl, ⟨nd, rfl⟩⟩; refine ⟨_, rfl, ?_⟩))
                  go_ret3
                  exact ⟨by first | rfl | (simp [errW_none, errW_some] <;> rfl) | (simp [*, errW_none, errW_some] <;> rfl), by repeat (first | (with_reducible first | exact HB.out | apply below_alloc | apply pw_below_drewN | apply below_drew1) | exact HB.out)⟩

/-! ### cutroomlaw01_RationalMulDiv: function 7 -/
def cutroomlaw01_RationalMulDiv.f (k : Nat) (a0 : Int) (a1 : Int) (a2 : Int) : Option (Bool) := (rational_MulDiv.f k a0 a1 a2).bind fun bt151 => ((cutroomref01_MulDiv.f k a0 a1 a2).bind fun bt154 => ((cutroomlaw01_awake.f k).bind fun t157 => (if t157 = true then (if bt151.1 = bt154.1 then (if bt151.2.1 = bt154.2.1 then (some (bt151.2.2 == bt154.2.2)) else (some false)) else (some false)) else (some false))))
theorem cutroomlaw01_RationalMulDiv.mono : ∀ a0 a1 a2 k, LeO (cutroomlaw01_RationalMulDiv.f k a0 a1 a2) (cutroomlaw01_RationalMulDiv.f (k + 1) a0 a1 a2) := by
  intro a0 a1 a2 k
  unfold cutroomlaw01_RationalMulDiv.f
  repeat' first
      | (with_reducible exact cutroomlaw01_awake.mono _)
      | (with_reducible exact cutroomref01_MulDiv.mono _ _ _ _)
      | (with_reducible exact rational_MulDiv.mono _ _ _ _)
      | (with_reducible exact LeO.refl _)
      | (with_reducible exact LeO.none _)
      | (with_reducible refine LeO.ite ?_ ?_)
      | (with_reducible refine LeO.bind ?_ (fun _ => ?_))
      | exact cutroomlaw01_awake.mono _
      | exact cutroomref01_MulDiv.mono _ _ _ _
      | exact rational_MulDiv.mono _ _ _ _
      | exact LeO.none _
      | refine LeO.ite ?_ ?_
      | refine LeO.bind ?_ (fun _ => ?_)
set_option maxHeartbeats 8000000 in
set_option maxRecDepth 100000 in
theorem cutroomlaw01_RationalMulDiv.calls (k : Nat) (a0 : Int) (a1 : Int) (a2 : Int) (r : Bool) (w : World) (h : cutroomlaw01_RationalMulDiv.f k a0 a1 a2 = some r) :
    Calls Try.prog 7 #[.int .i64 a0, .int .i64 a1, .int .i64 a2] w fun e w' => e = .returned (.bool r) ∧ Below w.heap.size w w' := by
  have HB := Aside0.mk (Below.refl w.heap.size w)
  have H : ((rational_MulDiv.f k a0 a1 a2).bind fun bt151 => ((cutroomref01_MulDiv.f k a0 a1 a2).bind fun bt154 => ((cutroomlaw01_awake.f k).bind fun t157 => (if t157 = true then (if bt151.1 = bt154.1 then (if bt151.2.1 = bt154.2.1 then (some (bt151.2.2 == bt154.2.2)) else (some false)) else (some false)) else (some false))))) = some r := h
  clear h
  replace H := Option.bind_eq_some_iff.mp H
  obtain ⟨⟨t151, t152, t153⟩, A40, H⟩ := H
  replace H : ((cutroomref01_MulDiv.f k a0 a1 a2).bind fun bt154 => ((cutroomlaw01_awake.f k).bind fun t157 => (if t157 = true then (if t151 = bt154.1 then (if t152 = bt154.2.1 then (some (t153 == bt154.2.2)) else (some false)) else (some false)) else (some false)))) = some r := H
  have A4 := Aside0.mk A40
  clear A40
  replace H := Option.bind_eq_some_iff.mp H
  obtain ⟨⟨t154, t155, t156⟩, A50, H⟩ := H
  replace H : ((cutroomlaw01_awake.f k).bind fun t157 => (if t157 = true then (if t151 = t154 then (if t152 = t155 then (some (t153 == t156)) else (some false)) else (some false)) else (some false))) = some r := H
  have A5 := Aside0.mk A50
  clear A50
  replace H := Option.bind_eq_some_iff.mp H
  obtain ⟨t157, A60, H⟩ := H
  replace H : (if t157 = true then (if t151 = t154 then (if t152 = t155 then (some (t153 == t156)) else (some false)) else (some false)) else (some false)) = some r := H
  have A6 := Aside0.mk A60
  clear A60
  by_cases c7 : t157 = true
  · subst c7
    have H1 : (if t151 = t154 then (if t152 = t155 then (some (t153 == t156)) else (some false)) else (some false)) = some r := by rw [if_pos rfl] at H; exact H
    clear H
    have H := H1
    clear H1
    by_cases c8 : t151 = t154
    · rw [if_pos c8] at H
      have c8b0 : (t151 == t154) = true := beq_iff_eq.mpr c8
      have c8b1 : (t151 != t154) = false := bne_eq_false_iff_eq.mpr c8
      clear c8
      by_cases c9 : t152 = t155
      · rw [if_pos c9] at H
        have c9b0 : (t152 == t155) = true := beq_iff_eq.mpr c9
        have c9b1 : (t152 != t155) = false := bne_eq_false_iff_eq.mpr c9
        clear c9
        obtain rfl := Option.some.inj H
        go_enter Try.func7, Try.ntmps7
        go_wp2_with (first | ((with_reducible refine gate_callee (f := 25) rfl ?_); refine goesL_ (some 17) rfl rfl Try.func25 (by kernel_rfl) rfl #[.int .i64 a0, .int .i64 a1, .int .i64 a2] rfl (by (try simp only [List.map_toArray, List.map_cons, List.map_nil]); first | done | rfl | (simp only [List.length_drop, List.length_take]; rfl)) ?_; (with_reducible refine (rational_MulDiv.calls k a0 a1 a2 t151 t152 t153 _ A4.out).mono ?_); rintro e w10 ⟨rfl, hb⟩; refine ⟨_, rfl, ?_⟩; have n0_ := Aside0.mk (below_step (by repeat (first | (with_reducible first | exact HB.out | apply below_alloc | apply pw_below_drewN | apply below_drew1) | exact HB.out)) hb); clear HB; have HB := n0_; clear n0_; (try clear hb); (try clear hb2); (try clear hk); (try clear hi)) | ((with_reducible refine gate_callee (f := 26) rfl ?_); refine goesL_ (some 25) rfl rfl Try.func26 (by kernel_rfl) rfl #[.int .i64 a0, .int .i64 a1, .int .i64 a2] rfl (by (try simp only [List.map_toArray, List.map_cons, List.map_nil]); first | done | rfl | (simp only [List.length_drop, List.length_take]; rfl)) ?_; (with_reducible refine (cutroomref01_MulDiv.calls k a0 a1 a2 t154 t155 t156 _ A5.out).mono ?_); rintro e w11 ⟨rfl, hb⟩; refine ⟨_, rfl, ?_⟩; have n0_ := Aside0.mk (below_step (by repeat (first | (with_reducible first | exact HB.out | apply below_alloc | apply pw_below_drewN | apply below_drew1) | exact HB.out)) hb); clear HB; have HB := n0_; clear n0_; (try clear hb); (try clear hb2); (try clear hk); (try clear hi)) | ((with_reducible refine gate_callee (f := 16) rfl ?_); refine goesL_ (some 29) rfl rfl Try.func16 (by kernel_rfl) rfl #[] rfl (by (try simp only [List.map_toArray, List.map_cons, List.map_nil]); first | done | rfl | (simp only [List.length_drop, List.length_take]; rfl)) ?_; (with_reducible refine (cutroomlaw01_awake.calls k  true _ A6.out).mono ?_); rintro e w12 ⟨rfl, hb⟩; refine ⟨_, rfl, ?_⟩; have n0_ := Aside0.mk (below_step (by repeat (first | (with_reducible first | exact HB.out | apply below_alloc | apply pw_below_drewN | apply below_drew1) | exact HB.out)) hb); clear HB; have HB := n0_; clear n0_; (try clear hb); (try clear hb2); (try clear hk); (try clear hi)))
        go_ret
        exact ⟨by first | rfl | (simp [errW_none, errW_some] <;> rfl) | (simp [*, errW_none, errW_some] <;> rfl), by repeat (first | (with_reducible first | exact HB.out | apply below_alloc | apply pw_below_drewN | apply below_drew1) | exact HB.out)⟩
      · rw [if_neg c9] at H
        have c9b0 : (t152 == t155) = false := beq_eq_false_iff_ne.mpr c9
        have c9b1 : (t152 != t155) = true := bne_iff_ne.mpr c9
        obtain rfl := Option.some.inj H
        go_enter Try.func7, Try.ntmps7
        go_wp2_with (first | ((with_reducible refine gate_callee (f := 25) rfl ?_); refine goesL_ (some 17) rfl rfl Try.func25 (by kernel_rfl) rfl #[.int .i64 a0, .int .i64 a1, .int .i64 a2] rfl (by (try simp only [List.map_toArray, List.map_cons, List.map_nil]); first | done | rfl | (simp only [List.length_drop, List.length_take]; rfl)) ?_; (with_reducible refine (rational_MulDiv.calls k a0 a1 a2 t151 t152 t153 _ A4.out).mono ?_); rintro e w13 ⟨rfl, hb⟩; refine ⟨_, rfl, ?_⟩; have n0_ := Aside0.mk (below_step (by repeat (first | (with_reducible first | exact HB.out | apply below_alloc | apply pw_below_drewN | apply below_drew1) | exact HB.out)) hb); clear HB; have HB := n0_; clear n0_; (try clear hb); (try clear hb2); (try clear hk); (try clear hi)) | ((with_reducible refine gate_callee (f := 26) rfl ?_); refine goesL_ (some 25) rfl rfl Try.func26 (by kernel_rfl) rfl #[.int .i64 a0, .int .i64 a1, .int .i64 a2] rfl (by (try simp only [List.map_toArray, List.map_cons, List.map_nil]); first | done | rfl | (simp only [List.length_drop, List.length_take]; rfl)) ?_; (with_reducible refine (cutroomref01_MulDiv.calls k a0 a1 a2 t154 t155 t156 _ A5.out).mono ?_); rintro e w14 ⟨rfl, hb⟩; refine ⟨_, rfl, ?_⟩; have n0_ := Aside0.mk (below_step (by repeat (first | (with_reducible first | exact HB.out | apply below_alloc | apply pw_below_drewN | apply below_drew1) | exact HB.out)) hb); clear HB; have HB := n0_; clear n0_; (try clear hb); (try clear hb2); (try clear hk); (try clear hi)) | ((with_reducible refine gate_callee (f := 16) rfl ?_); refine goesL_ (some 29) rfl rfl Try.func16 (by kernel_rfl) rfl #[] rfl (by (try simp only [List.map_toArray, List.map_cons, List.map_nil]); first | done | rfl | (simp only [List.length_drop, List.length_take]; rfl)) ?_; (with_reducible refine (cutroomlaw01_awake.calls k  true _ A6.out).mono ?_); rintro e w15 ⟨rfl, hb⟩; refine ⟨_, rfl, ?_⟩; have n0_ := Aside0.mk (below_step (by repeat (first | (with_reducible first | exact HB.out | apply below_alloc | apply pw_below_drewN | apply below_drew1) | exact HB.out)) hb); clear HB; have HB := n0_; clear n0_; (try clear hb); (try clear hb2); (try clear hk); (try clear hi)))
        go_ret
        exact ⟨by first | rfl | (simp [errW_none, errW_some] <;> rfl) | (simp [*, errW_none, errW_some] <;> rfl), by repeat (first | (with_reducible first | exact HB.out | apply below_alloc | apply pw_below_drewN | apply below_drew1) | exact HB.out)⟩
    · rw [if_neg c8] at H
      have c8b0 : (t151 == t154) = false := beq_eq_false_iff_ne.mpr c8
      have c8b1 : (t151 != t154) = true := bne_iff_ne.mpr c8
      obtain rfl := Option.some.inj H
      go_enter Try.func7, Try.ntmps7
      go_wp2_with (first | ((with_reducible refine gate_callee (f := 25) rfl ?_); refine goesL_ (some 17) rfl rfl Try.func25 (by kernel_rfl) rfl #[.int .i64 a0, .int .i64 a1, .int .i64 a2] rfl (by (try simp only [List.map_toArray, List.map_cons, List.map_nil]); first | done | rfl | (simp only [List.length_drop, List.length_take]; rfl)) ?_; (with_reducible refine (rational_MulDiv.calls k a0 a1 a2 t151 t152 t153 _ A4.out).mono ?_); rintro e w16 ⟨rfl, hb⟩; refine ⟨_, rfl, ?_⟩; have n0_ := Aside0.mk (below_step (by repeat (first | (with_reducible first | exact HB.out | apply below_alloc | apply pw_below_drewN | apply below_drew1) | exact HB.out)) hb); clear HB; have HB := n0_; clear n0_; (try clear hb); (try clear hb2); (try clear hk); (try clear hi)) | ((with_reducible refine gate_callee (f := 26) rfl ?_); refine goesL_ (some 25) rfl rfl Try.func26 (by kernel_rfl) rfl #[.int .i64 a0, .int .i64 a1, .int .i64 a2] rfl (by (try simp only [List.map_toArray, List.map_cons, List.map_nil]); first | done | rfl | (simp only [List.length_drop, List.length_take]; rfl)) ?_; (with_reducible refine (cutroomref01_MulDiv.calls k a0 a1 a2 t154 t155 t156 _ A5.out).mono ?_); rintro e w17 ⟨rfl, hb⟩; refine ⟨_, rfl, ?_⟩; have n0_ := Aside0.mk (below_step (by repeat (first | (with_reducible first | exact HB.out | apply below_alloc | apply pw_below_drewN | apply below_drew1) | exact HB.out)) hb); clear HB; have HB := n0_; clear n0_; (try clear hb); (try clear hb2); (try clear hk); (try clear hi)) | ((with_reducible refine gate_callee (f := 16) rfl ?_); refine goesL_ (some 29) rfl rfl Try.func16 (by kernel_rfl) rfl #[] rfl (by (try simp only [List.map_toArray, List.map_cons, List.map_nil]); first | done | rfl | (simp only [List.length_drop, List.length_take]; rfl)) ?_; (with_reducible refine (cutroomlaw01_awake.calls k  true _ A6.out).mono ?_); rintro e w18 ⟨rfl, hb⟩; refine ⟨_, rfl, ?_⟩; have n0_ := Aside0.mk (below_step (by repeat (first | (with_reducible first | exact HB.out | apply below_alloc | apply pw_below_drewN | apply below_drew1) | exact HB.out)) hb); clear HB; have HB := n0_; clear n0_; (try clear hb); (try clear hb2); (try clear hk); (try clear hi)))
      go_ret
      exact ⟨by first | rfl | (simp [errW_none, errW_some] <;> rfl) | (simp [*, errW_none, errW_some] <;> rfl), by repeat (first | (with_reducible first | exact HB.out | apply below_alloc | apply pw_below_drewN | apply below_drew1) | exact HB.out)⟩
  · replace c7 := Bool.eq_false_iff.mpr c7
    subst c7
    have H1 : (some false) = some r := by rw [if_neg (show ¬ (false = true) by decide)] at H; exact H
    clear H
    have H := H1
    clear H1
    obtain rfl := Option.some.inj H
    go_enter Try.func7, Try.ntmps7
    go_wp2_with (first | ((with_reducible refine gate_callee (f := 25) rfl ?_); refine goesL_ (some 17) rfl rfl Try.func25 (by kernel_rfl) rfl #[.int .i64 a0, .int .i64 a1, .int .i64 a2] rfl (by (try simp only [List.map_toArray, List.map_cons, List.map_nil]); first | done | rfl | (simp only [List.length_drop, List.length_take]; rfl)) ?_; (with_reducible refine (rational_MulDiv.calls k a0 a1 a2 t151 t152 t153 _ A4.out).mono ?_); rintro e w19 ⟨rfl, hb⟩; refine ⟨_, rfl, ?_⟩; have n0_ := Aside0.mk (below_step (by repeat (first | (with_reducible first | exact HB.out | apply below_alloc | apply pw_below_drewN | apply below_drew1) | exact HB.out)) hb); clear HB; have HB := n0_; clear n0_; (try clear hb); (try clear hb2); (try clear hk); (try clear hi)) | ((with_reducible refine gate_callee (f := 26) rfl ?_); refine goesL_ (some 25) rfl rfl Try.func26 (by kernel_rfl) rfl #[.int .i64 a0, .int .i64 a1, .int .i64 a2] rfl (by (try simp only [List.map_toArray, List.map_cons, List.map_nil]); first | done | rfl | (simp only [List.length_drop, List.length_take]; rfl)) ?_; (with_reducible refine (cutroomref01_MulDiv.calls k a0 a1 a2 t154 t155 t156 _ A5.out).mono ?_); rintro e w20 ⟨rfl, hb⟩; refine ⟨_, rfl, ?_⟩; have n0_ := Aside0.mk (below_step (by repeat (first | (with_reducible first | exact HB.out | apply below_alloc | apply pw_below_drewN | apply below_drew1) | exact HB.out)) hb); clear HB; have HB := n0_; clear n0_; (try clear hb); (try clear hb2); (try clear hk); (try clear hi)) | ((with_reducible refine gate_callee (f := 16) rfl ?_); refine goesL_ (some 29) rfl rfl Try.func16 (by kernel_rfl) rfl #[] rfl (by (try simp only [List.map_toArray, List.map_cons, List.map_nil]); first | done | rfl | (simp only [List.length_drop, List.length_take]; rfl)) ?_; (with_reducible refine (cutroomlaw01_awake.calls k  false _ A6.out).mono ?_); rintro e w21 ⟨rfl, hb⟩; refine ⟨_, rfl, ?_⟩; have n0_ := Aside0.mk (below_step (by repeat (first | (with_reducible first | exact HB.out | apply below_alloc | apply pw_below_drewN | apply below_drew1) | exact HB.out)) hb); clear HB; have HB := n0_; clear n0_; (try clear hb); (try clear hb2); (try clear hk); (try clear hi)))
    go_ret
    exact ⟨by first | rfl | (simp [errW_none, errW_some] <;> rfl) | (simp [*, errW_none, errW_some] <;> rfl), by repeat (first | (with_reducible first | exact HB.out | apply below_alloc | apply pw_below_drewN | apply below_drew1) | exact HB.out)⟩

/-- THE ONE PURE STATEMENT of cutroomlaw01_RationalMulDiv: yours. -/
def cutroomlaw01_RationalMulDiv.Pure : Prop := ∀ (a0 : Int) (a1 : Int) (a2 : Int), (Lit.int .i64 a0).wf = true → (Lit.int .i64 a1).wf = true → (Lit.int .i64 a2).wf = true → ∃ k, cutroomlaw01_RationalMulDiv.f k a0 a1 a2 = some true
theorem cutroomlaw01_RationalMulDiv.walk (P : cutroomlaw01_RationalMulDiv.Pure) (a0 : Int) (a1 : Int) (a2 : Int) (w : World) (w0 : (Lit.int .i64 a0).wf = true) (w1 : (Lit.int .i64 a1).wf = true) (w2 : (Lit.int .i64 a2).wf = true) :
    Calls Try.prog 7 #[.int .i64 a0, .int .i64 a1, .int .i64 a2] w fun e w' => e = .returned (.bool true) ∧ Below w.heap.size w w' := by
  obtain ⟨k, h⟩ := P a0 a1 a2 w0 w1 w2
  refine (cutroomlaw01_RationalMulDiv.calls k a0 a1 a2 true w h).mono ?_
  rintro e w' ⟨rfl, hd⟩
  exact ⟨rfl, hd⟩

end Go.Proofs.Ytifemmalcncicaa.PRationalMulDiv
