-- Written by a program of this session, after the form of the kit's print; each text is checked by Lean alone.
import Derived.Test.YtnihjbcdlgfklaaPMotionMirrorx0
import Derived.Test.YtnihjbcdlgfklaaPMotionMirrorx2
import Derived.Test.YtnihjbcdlgfklaaPMotionMirrorx4
namespace Go.Proofs.Ytnihjbcdlgfklaa.PMotionMirror
open Go.RowKit Go.Proofs.YtnihjbcdlgfklaaW.PrintWords Go.Proofs.YtnihjbcdlgfklaaW.PrintLast Go.Proofs.YtnihjbcdlgfklaaW.PrintMore
attribute [local go_sem] max2_int min2_int max_two min_two max_three min_three max_four min_four   -- for this text's walks alone
set_option linter.unusedVariables false
set_option linter.unusedSimpArgs false

/-! ### cutroomlaw08_awake: function 13 -/
def cutroomlaw08_awake.f (k : Nat)  : Option (Bool) := (cutroomref07_Flat.f k 16 16 1 0 0).bind fun bt154 => ((cutroomref07_Flat.f k 16 16 2 0 1).bind fun bt165 => ((motion_Average.f k bt154.1 bt154.2.1 bt154.2.2.1 bt154.2.2.2.1 bt154.2.2.2.2 bt165.1 bt165.2.1 bt165.2.2.1 bt165.2.2.2.1 bt165.2.2.2.2).bind fun bt176 => (if bt176.2.2.2.2.2 = 0 then ((cutroomref07_Flat.f k 16 16 2 0 1).bind fun bt189 => ((cutroomref07_Equal.f bt176.1 bt176.2.1 bt176.2.2.1 bt176.2.2.2.1 bt176.2.2.2.2.1 bt189.1 bt189.2.1 bt189.2.2.1 bt189.2.2.2.1 bt189.2.2.2.2).bind fun t200 => (some t200))) else (some false))))
theorem cutroomlaw08_awake.mono : ∀ k, LeO (cutroomlaw08_awake.f k ) (cutroomlaw08_awake.f (k + 1) ) := by
  intro  k
  unfold cutroomlaw08_awake.f
  repeat' first
      | (with_reducible exact cutroomref07_Flat.mono _ _ _ _ _ _)
      | (with_reducible exact motion_Average.mono _ _ _ _ _ _ _ _ _ _ _)
      | (with_reducible exact LeO.refl _)
      | (with_reducible exact LeO.none _)
      | (with_reducible refine LeO.ite ?_ ?_)
      | (with_reducible refine LeO.bind ?_ (fun _ => ?_))
      | exact cutroomref07_Flat.mono _ _ _ _ _ _
      | exact motion_Average.mono _ _ _ _ _ _ _ _ _ _ _
      | exact LeO.none _
      | refine LeO.ite ?_ ?_
      | refine LeO.bind ?_ (fun _ => ?_)
def cutroomlaw08_awake.T2 : Bool × List (List Nat × List Nat) := (true, [([], []), ([0], [0]), ([1], [1]), ([2], [2]), ([2, 2], [2]), ([3, 4, 4, 2], [2, 3, 4]), ([2, 5], [2, 5]), ([6, 5, 0, 1, 2, 3, 4, 5, 6], [6])])
def cutroomlaw08_awake.B2 : List Nat := [0, 1, 3, 7, 7, 31, 63, 127]
theorem cutroomlaw08_awake.tab2 : rtab .any (opsOf Try.f13 2) = cutroomlaw08_awake.T2 := by kernel_rfl
theorem cutroomlaw08_awake.bits2 : waitsOk cutroomlaw08_awake.T2.2 cutroomlaw08_awake.B2 = true := by kernel_rfl
set_option maxHeartbeats 8000000 in
set_option maxRecDepth 100000 in
theorem cutroomlaw08_awake.calls (k : Nat)  (r : Bool) (w : World) (h : cutroomlaw08_awake.f k  = some r) :
    Calls Try.prog 13 #[] w fun e w' => e = .returned (.bool r) ∧ Below w.heap.size w w' := by
  have hu24 := Try.underlying24
  have HB := Aside0.mk (Below.refl w.heap.size w)
  have H : ((cutroomref07_Flat.f k 16 16 1 0 0).bind fun bt154 => ((cutroomref07_Flat.f k 16 16 2 0 1).bind fun bt165 => ((motion_Average.f k bt154.1 bt154.2.1 bt154.2.2.1 bt154.2.2.2.1 bt154.2.2.2.2 bt165.1 bt165.2.1 bt165.2.2.1 bt165.2.2.2.1 bt165.2.2.2.2).bind fun bt176 => (if bt176.2.2.2.2.2 = 0 then ((cutroomref07_Flat.f k 16 16 2 0 1).bind fun bt189 => ((cutroomref07_Equal.f bt176.1 bt176.2.1 bt176.2.2.1 bt176.2.2.2.1 bt176.2.2.2.2.1 bt189.1 bt189.2.1 bt189.2.2.1 bt189.2.2.2.1 bt189.2.2.2.2).bind fun t200 => (some t200))) else (some false))))) = some r := h
  clear h
  replace H := Option.bind_eq_some_iff.mp H
  obtain ⟨⟨t154, t155, t156, t159, t162⟩, A10, H⟩ := H
  replace H : ((cutroomref07_Flat.f k 16 16 2 0 1).bind fun bt165 => ((motion_Average.f k t154 t155 t156 t159 t162 bt165.1 bt165.2.1 bt165.2.2.1 bt165.2.2.2.1 bt165.2.2.2.2).bind fun bt176 => (if bt176.2.2.2.2.2 = 0 then ((cutroomref07_Flat.f k 16 16 2 0 1).bind fun bt189 => ((cutroomref07_Equal.f bt176.1 bt176.2.1 bt176.2.2.1 bt176.2.2.2.1 bt176.2.2.2.2.1 bt189.1 bt189.2.1 bt189.2.2.1 bt189.2.2.2.1 bt189.2.2.2.2).bind fun t200 => (some t200))) else (some false)))) = some r := H
  have A1 := Aside0.mk A10
  clear A10
  replace H := Option.bind_eq_some_iff.mp H
  obtain ⟨⟨t165, t166, t167, t170, t173⟩, A20, H⟩ := H
  replace H : ((motion_Average.f k t154 t155 t156 t159 t162 t165 t166 t167 t170 t173).bind fun bt176 => (if bt176.2.2.2.2.2 = 0 then ((cutroomref07_Flat.f k 16 16 2 0 1).bind fun bt189 => ((cutroomref07_Equal.f bt176.1 bt176.2.1 bt176.2.2.1 bt176.2.2.2.1 bt176.2.2.2.2.1 bt189.1 bt189.2.1 bt189.2.2.1 bt189.2.2.2.1 bt189.2.2.2.2).bind fun t200 => (some t200))) else (some false))) = some r := H
  have A2 := Aside0.mk A20
  clear A20
  replace H := Option.bind_eq_some_iff.mp H
  obtain ⟨⟨t176, t177, t178, t181, t184, t187⟩, A30, H⟩ := H
  replace H : (if t187 = 0 then ((cutroomref07_Flat.f k 16 16 2 0 1).bind fun bt189 => ((cutroomref07_Equal.f t176 t177 t178 t181 t184 bt189.1 bt189.2.1 bt189.2.2.1 bt189.2.2.2.1 bt189.2.2.2.2).bind fun t200 => (some t200))) else (some false)) = some r := H
  have A3 := Aside0.mk A30
  clear A30
  by_cases c4 : t187 = 0
  · rw [if_pos c4] at H
    have c4b0 : (t187 == 0) = true := beq_iff_eq.mpr c4
    have c4b1 : (t187 != 0) = false := bne_eq_false_iff_eq.mpr c4
    clear c4
    replace H := Option.bind_eq_some_iff.mp H
    obtain ⟨⟨t189, t190, t191, t194, t197⟩, A50, H⟩ := H
    replace H : ((cutroomref07_Equal.f t176 t177 t178 t181 t184 t189 t190 t191 t194 t197).bind fun t200 => (some t200)) = some r := H
    have A5 := Aside0.mk A50
    clear A50
    replace H := Option.bind_eq_some_iff.mp H
    obtain ⟨t200, A60, H⟩ := H
    replace H : (some t200) = some r := H
    have A6 := Aside0.mk A60
    clear A60
    obtain rfl := Option.some.inj H
    go_enter Try.func13, Try.ntmps13
    try go_wp2_with (first | ((with_reducible refine gate_callee (f := 29) rfl ?_); refine goesL_ (some 4) rfl rfl Try.func29 (by kernel_rfl) rfl #[.int .i64 16, .int .i64 16, .int .u8 1, .int .u8 0, .int .u8 0] rfl (by (try simp only [List.map_toArray, List.map_cons, List.map_nil]); first | done | rfl | (simp only [List.length_drop, List.length_take]; rfl)) ?_; (with_reducible refine (cutroomref07_Flat.calls k 16 16 1 0 0 t154 t155 t156 t159 t162 _ A1.out).mono ?_); rintro e w7 ⟨v157, v160, v163, rfl, ho0, ho1, ho2, hb⟩; refine ⟨_, rfl, ?_⟩; have n0_ := Aside0.mk (Kd.R_lower ho0 (below_size (by repeat (first | (with_reducible first | exact HB.out | apply below_alloc | apply pw_below_drewN | apply below_drew1) | exact HB.out)))); have n1_ := Aside0.mk (Kd.R_lower ho1 (below_size (by repeat (first | (with_reducible first | exact HB.out | apply below_alloc | apply pw_below_drewN | apply below_drew1) | exact HB.out)))); have n2_ := Aside0.mk (Kd.R_lower ho2 (below_size (by repeat (first | (with_reducible first | exact HB.out | apply below_alloc | apply pw_below_drewN | apply below_drew1) | exact HB.out)))); have n3_ := Aside0.mk (below_step (by repeat (first | (with_reducible first | exact HB.out | apply below_alloc | apply pw_below_drewN | apply below_drew1) | exact HB.out)) hb); clear HB; have HO158 := n0_; have HO161 := n1_; have HO164 := n2_; have HB := n3_; clear n0_ n1_ n2_ n3_; (try clear hb); (try clear hb2); (try clear hk); (try clear hi); (try clear ho0); (try clear ho1); (try clear ho2)) | ((with_reducible refine gate_callee (f := 29) rfl ?_); refine goesL_ (some 5) rfl rfl Try.func29 (by kernel_rfl) rfl #[.int .i64 16, .int .i64 16, .int .u8 2, .int .u8 0, .int .u8 1] rfl (by (try simp only [List.map_toArray, List.map_cons, List.map_nil]); first | done | rfl | (simp only [List.length_drop, List.length_take]; rfl)) ?_; (with_reducible refine (cutroomref07_Flat.calls k 16 16 2 0 1 t165 t166 t167 t170 t173 _ A2.out).mono ?_); rintro e w8 ⟨v168, v171, v174, rfl, ho0, ho1, ho2, hb⟩; refine ⟨_, rfl, ?_⟩; have n0_ := Aside0.mk (Kd.R_mono (Kd.R_told (Kd.R_told (Kd.R_told (Kd.R_old (by (with_reducible repeat (first | apply Kd.R_alloc | apply Kd.R_drewN | apply Kd.R_drew)); exact HO158.out) hb) (Kd.R_base ho0)) (Kd.R_base ho1)) (Kd.R_base ho2)) (fun _ h_ => h_.1)); have n1_ := Aside0.mk (Kd.R_mono (Kd.R_told (Kd.R_told (Kd.R_told (Kd.R_old (by (with_reducible repeat (first | apply Kd.R_alloc | apply Kd.R_drewN | apply Kd.R_drew)); exact HO161.out) hb) (Kd.R_base ho0)) (Kd.R_base ho1)) (Kd.R_base ho2)) (fun _ h_ => h_.1)); have n2_ := Aside0.mk (Kd.R_mono (Kd.R_told (Kd.R_told (Kd.R_told (Kd.R_old (by (with_reducible repeat (first | apply Kd.R_alloc | apply Kd.R_drewN | apply Kd.R_drew)); exact HO164.out) hb) (Kd.R_base ho0)) (Kd.R_base ho1)) (Kd.R_base ho2)) (fun _ h_ => h_.1)); have n3_ := Aside0.mk (Kd.R_lower (Kd.R_new' (Kd.R_new' (Kd.R_new' ho0 (Kd.R_lt (by (with_reducible repeat (first | apply Kd.R_alloc | apply Kd.R_drewN | apply Kd.R_drew)); exact HO158.out))) (Kd.R_lt (by (with_reducible repeat (first | apply Kd.R_alloc | apply Kd.R_drewN | apply Kd.R_drew)); exact HO161.out))) (Kd.R_lt (by (with_reducible repeat (first | apply Kd.R_alloc | apply Kd.R_drewN | apply Kd.R_drew)); exact HO164.out))) (below_size (by repeat (first | (with_reducible first | exact HB.out | apply below_alloc | apply pw_below_drewN | apply below_drew1) | exact HB.out)))); have n4_ := Aside0.mk (Kd.R_lower (Kd.R_new' (Kd.R_new' (Kd.R_new' ho1 (Kd.R_lt (by (with_reducible repeat (first | apply Kd.R_alloc | apply Kd.R_drewN | apply Kd.R_drew)); exact HO158.out))) (Kd.R_lt (by (with_reducible repeat (first | apply Kd.R_alloc | apply Kd.R_drewN | apply Kd.R_drew)); exact HO161.out))) (Kd.R_lt (by (with_reducible repeat (first | apply Kd.R_alloc | apply Kd.R_drewN | apply Kd.R_drew)); exact HO164.out))) (below_size (by repeat (first | (with_reducible first | exact HB.out | apply below_alloc | apply pw_below_drewN | apply below_drew1) | exact HB.out)))); have n5_ := Aside0.mk (Kd.R_lower (Kd.R_new' (Kd.R_new' (Kd.R_new' ho2 (Kd.R_lt (by (with_reducible repeat (first | apply Kd.R_alloc | apply Kd.R_drewN | apply Kd.R_drew)); exact HO158.out))) (Kd.R_lt (by (with_reducible repeat (first | apply Kd.R_alloc | apply Kd.R_drewN | apply Kd.R_drew)); exact HO161.out))) (Kd.R_lt (by (with_reducible repeat (first | apply Kd.R_alloc | apply Kd.R_drewN | apply Kd.R_drew)); exact HO164.out))) (below_size (by repeat (first | (with_reducible first | exact HB.out | apply below_alloc | apply pw_below_drewN | apply below_drew1) | exact HB.out)))); have n6_ := Aside0.mk (below_step (by repeat (first | (with_reducible first | exact HB.out | apply below_alloc | apply pw_below_drewN | apply below_drew1) | exact HB.out)) hb); clear HO158; clear HO161; clear HO164; clear HB; have HO158 := n0_; have HO161 := n1_; have HO164 := n2_; have HO169 := n3_; have HO172 := n4_; have HO175 := n5_; have HB := n6_; clear n0_ n1_ n2_ n3_ n4_ n5_ n6_; (try clear hb); (try clear hb2); (try clear hk); (try clear hi); (try clear ho0); (try clear ho1); (try clear ho2); obtain ⟨Ao9, co9, eo9⟩ := Kd.R_slice HO158.out; subst eo9; obtain ⟨Ao10, co10, eo10⟩ := Kd.R_slice HO161.out; subst eo10; obtain ⟨Ao11, co11, eo11⟩ := Kd.R_slice HO164.out; subst eo11; obtain ⟨Ao12, co12, eo12⟩ := Kd.R_slice HO169.out; subst eo12; obtain ⟨Ao13, co13, eo13⟩ := Kd.R_slice HO172.out; subst eo13; obtain ⟨Ao14, co14, eo14⟩ := Kd.R_slice HO175.out; subst eo14) | ((with_reducible refine gate_callee (f := 11) rfl ?_); refine goesL_ (some 6) rfl rfl Try.func11 (by kernel_rfl) rfl #[.agg #[.int .i64 t154, .int .i64 t155, .slice Ao9 t156.length co9, .slice Ao10 t159.length co10, .slice Ao11 t162.length co11], .agg #[.int .i64 t165, .int .i64 t166, .slice Ao12 t167.length co12, .slice Ao13 t170.length co13, .slice Ao14 t173.length co14]] rfl (by (try simp only [List.map_toArray, List.map_cons, List.map_nil]); first | done | rfl | (simp only [List.length_drop, List.length_take]; rfl)) ?_; (with_reducible refine (motion_Average.calls k t154 t155 _ _ t156 _ _ t159 _ _ t162 t165 t166 _ _ t167 _ _ t170 _ _ t173 t176 t177 t178 t181 t184 t187 _ ?side1 ?side2 ?side3 ?side4 ?side5 ?side6 ?side7 ?side8 ?side9 ?side10 ?side11 ?side12 A3.out).mono ?_); (case side1 => repeat (first | exact (Kd.R_reads' HO158.out).2.2 | (with_reducible refine Kd.C_alloc ?_ _) | (with_reducible refine Kd.C_drewN ?_ _) | (with_reducible refine Kd.C_drew ?_))); (case side2 => exact (Kd.R_reads' HO158.out).2.1); (case side3 => repeat (first | exact (Kd.R_reads' HO161.out).2.2 | (with_reducible refine Kd.C_alloc ?_ _) | (with_reducible refine Kd.C_drewN ?_ _) | (with_reducible refine Kd.C_drew ?_))); (case side4 => exact (Kd.R_reads' HO161.out).2.1); (case side5 => repeat (first | exact (Kd.R_reads' HO164.out).2.2 | (with_reducible refine Kd.C_alloc ?_ _) | (with_reducible refine Kd.C_drewN ?_ _) | (with_reducible refine Kd.C_drew ?_))); (case side6 => exact (Kd.R_reads' HO164.out).2.1); (case side7 => repeat (first | exact (Kd.R_reads' HO169.out).2.2 | (with_reducible refine Kd.C_alloc ?_ _) | (with_reducible refine Kd.C_drewN ?_ _) | (with_reducible refine Kd.C_drew ?_))); (case side8 => exact (Kd.R_reads' HO169.out).2.1); (case side9 => repeat (first | exact (Kd.R_reads' HO172.out).2.2 | (with_reducible refine Kd.C_alloc ?_ _) | (with_reducible refine Kd.C_drewN ?_ _) | (with_reducible refine Kd.C_drew ?_))); (case side10 => exact (Kd.R_reads' HO172.out).2.1); (case side11 => repeat (first | exact (Kd.R_reads' HO175.out).2.2 | (with_reducible refine Kd.C_alloc ?_ _) | (with_reducible refine Kd.C_drewN ?_ _) | (with_reducible refine Kd.C_drew ?_))); (case side12 => exact (Kd.R_reads' HO175.out).2.1); rintro e w15 ⟨v179, v182, v185, rfl, ho0, ho1, ho2, hb⟩; refine ⟨_, rfl, ?_⟩; have n0_ := Aside0.mk (Kd.R_mono (Kd.R_told (Kd.R_told (Kd.R_told (Kd.R_old (by (with_reducible repeat (first | apply Kd.R_alloc | apply Kd.R_drewN | apply Kd.R_drew)); exact HO158.out) hb) (Kd.R_base ho0)) (Kd.R_base ho1)) (Kd.R_base ho2)) (fun _ h_ => h_.1)); have n1_ := Aside0.mk (Kd.R_mono (Kd.R_told (Kd.R_told (Kd.R_told (Kd.R_old (by (with_reducible repeat (first | apply Kd.R_alloc | apply Kd.R_drewN | apply Kd.R_drew)); exact HO161.out) hb) (Kd.R_base ho0)) (Kd.R_base ho1)) (Kd.R_base ho2)) (fun _ h_ => h_.1)); have n2_ := Aside0.mk (Kd.R_mono (Kd.R_told (Kd.R_told (Kd.R_told (Kd.R_old (by (with_reducible repeat (first | apply Kd.R_alloc | apply Kd.R_drewN | apply Kd.R_drew)); exact HO164.out) hb) (Kd.R_base ho0)) (Kd.R_base ho1)) (Kd.R_base ho2)) (fun _ h_ => h_.1)); have n3_ := Aside0.mk (Kd.R_mono (Kd.R_told (Kd.R_told (Kd.R_told (Kd.R_old (by (with_reducible repeat (first | apply Kd.R_alloc | apply Kd.R_drewN | apply Kd.R_drew)); exact HO169.out) hb) (Kd.R_base ho0)) (Kd.R_base ho1)) (Kd.R_base ho2)) (fun _ h_ => h_.1)); have n4_ := Aside0.mk (Kd.R_mono (Kd.R_told (Kd.R_told (Kd.R_told (Kd.R_old (by (with_reducible repeat (first | apply Kd.R_alloc | apply Kd.R_drewN | apply Kd.R_drew)); exact HO172.out) hb) (Kd.R_base ho0)) (Kd.R_base ho1)) (Kd.R_base ho2)) (fun _ h_ => h_.1)); have n5_ := Aside0.mk (Kd.R_mono (Kd.R_told (Kd.R_told (Kd.R_told (Kd.R_old (by (with_reducible repeat (first | apply Kd.R_alloc | apply Kd.R_drewN | apply Kd.R_drew)); exact HO175.out) hb) (Kd.R_base ho0)) (Kd.R_base ho1)) (Kd.R_base ho2)) (fun _ h_ => h_.1)); have n6_ := Aside0.mk (Kd.R_lower (Kd.R_new' (Kd.R_new' (Kd.R_new' (Kd.R_new' (Kd.R_new' (Kd.R_new' ho0 (Kd.R_lt (by (with_reducible repeat (first | apply Kd.R_alloc | apply Kd.R_drewN | apply Kd.R_drew)); exact HO158.out))) (Kd.R_lt (by (with_reducible repeat (first | apply Kd.R_alloc | apply Kd.R_drewN | apply Kd.R_drew)); exact HO161.out))) (Kd.R_lt (by (with_reducible repeat (first | apply Kd.R_alloc | apply Kd.R_drewN | apply Kd.R_drew)); exact HO164.out))) (Kd.R_lt (by (with_reducible repeat (first | apply Kd.R_alloc | apply Kd.R_drewN | apply Kd.R_drew)); exact HO169.out))) (Kd.R_lt (by (with_reducible repeat (first | apply Kd.R_alloc | apply Kd.R_drewN | apply Kd.R_drew)); exact HO172.out))) (Kd.R_lt (by (with_reducible repeat (first | apply Kd.R_alloc | apply Kd.R_drewN | apply Kd.R_drew)); exact HO175.out))) (below_size (by repeat (first | (with_reducible first | exact HB.out | apply below_alloc | apply pw_below_drewN | apply below_drew1) | exact HB.out)))); have n7_ := Aside0.mk (Kd.R_lower (Kd.R_new' (Kd.R_new' (Kd.R_new' (Kd.R_new' (Kd.R_new' (Kd.R_new' ho1 (Kd.R_lt (by (with_reducible repeat (first | apply Kd.R_alloc | apply Kd.R_drewN | apply Kd.R_drew)); exact HO158.out))) (Kd.R_lt (by (with_reducible repeat (first | apply Kd.R_alloc | apply Kd.R_drewN | apply Kd.R_drew)); exact HO161.out))) (Kd.R_lt (by (with_reducible repeat (first | apply Kd.R_alloc | apply Kd.R_drewN | apply Kd.R_drew)); exact HO164.out))) (Kd.R_lt (by (with_reducible repeat (first | apply Kd.R_alloc | apply Kd.R_drewN | apply Kd.R_drew)); exact HO169.out))) (Kd.R_lt (by (with_reducible repeat (first | apply Kd.R_alloc | apply Kd.R_drewN | apply Kd.R_drew)); exact HO172.out))) (Kd.R_lt (by (with_reducible repeat (first | apply Kd.R_alloc | apply Kd.R_drewN | apply Kd.R_drew)); exact HO175.out))) (below_size (by repeat (first | (with_reducible first | exact HB.out | apply below_alloc | apply pw_below_drewN | apply below_drew1) | exact HB.out)))); have n8_ := Aside0.mk (Kd.R_lower (Kd.R_new' (Kd.R_new' (Kd.R_new' (Kd.R_new' (Kd.R_new' (Kd.R_new' ho2 (Kd.R_lt (by (with_reducible repeat (first | apply Kd.R_alloc | apply Kd.R_drewN | apply Kd.R_drew)); exact HO158.out))) (Kd.R_lt (by (with_reducible repeat (first | apply Kd.R_alloc | apply Kd.R_drewN | apply Kd.R_drew)); exact HO161.out))) (Kd.R_lt (by (with_reducible repeat (first | apply Kd.R_alloc | apply Kd.R_drewN | apply Kd.R_drew)); exact HO164.out))) (Kd.R_lt (by (with_reducible repeat (first | apply Kd.R_alloc | apply Kd.R_drewN | apply Kd.R_drew)); exact HO169.out))) (Kd.R_lt (by (with_reducible repeat (first | apply Kd.R_alloc | apply Kd.R_drewN | apply Kd.R_drew)); exact HO172.out))) (Kd.R_lt (by (with_reducible repeat (first | apply Kd.R_alloc | apply Kd.R_drewN | apply Kd.R_drew)); exact HO175.out))) (below_size (by repeat (first | (with_reducible first | exact HB.out | apply below_alloc | apply pw_below_drewN | apply below_drew1) | exact HB.out)))); have n9_ := Aside0.mk (below_step (by repeat (first | (with_reducible first | exact HB.out | apply below_alloc | apply pw_below_drewN | apply below_drew1) | exact HB.out)) hb); clear HO158; clear HO161; clear HO164; clear HO169; clear HO172; clear HO175; clear HB; have HO158 := n0_; have HO161 := n1_; have HO164 := n2_; have HO169 := n3_; have HO172 := n4_; have HO175 := n5_; have HO180 := n6_; have HO183 := n7_; have HO186 := n8_; have HB := n9_; clear n0_ n1_ n2_ n3_ n4_ n5_ n6_ n7_ n8_ n9_; (try clear hb); (try clear hb2); (try clear hk); (try clear hi); (try clear ho0); (try clear ho1); (try clear ho2)) | ((with_reducible refine gate_dst (N := 1) rfl ?_); refine box_event ?hg (N := 1) ?hd (cs := #[.int .i64 0, .int .i64 0, .slice none 0 0, .slice none 0 0, .slice none 0 0]) (t := 24) ?hr ?_; (case hd => rfl); (case hg => rfl); (case hr => first | (go_simp; done) | (go_simp; rfl)); intro gb188 hg w16 hbox hb; have n0_ := Aside0.mk (Kd.R_below (by (with_reducible repeat (first | apply Kd.R_alloc | apply Kd.R_drewN | apply Kd.R_drew)); exact HO158.out) hb); have n1_ := Aside0.mk (Kd.R_below (by (with_reducible repeat (first | apply Kd.R_alloc | apply Kd.R_drewN | apply Kd.R_drew)); exact HO161.out) hb); have n2_ := Aside0.mk (Kd.R_below (by (with_reducible repeat (first | apply Kd.R_alloc | apply Kd.R_drewN | apply Kd.R_drew)); exact HO164.out) hb); have n3_ := Aside0.mk (Kd.R_below (by (with_reducible repeat (first | apply Kd.R_alloc | apply Kd.R_drewN | apply Kd.R_drew)); exact HO169.out) hb); have n4_ := Aside0.mk (Kd.R_below (by (with_reducible repeat (first | apply Kd.R_alloc | apply Kd.R_drewN | apply Kd.R_drew)); exact HO172.out) hb); have n5_ := Aside0.mk (Kd.R_below (by (with_reducible repeat (first | apply Kd.R_alloc | apply Kd.R_drewN | apply Kd.R_drew)); exact HO175.out) hb); have n6_ := Aside0.mk (Kd.R_below (by (with_reducible repeat (first | apply Kd.R_alloc | apply Kd.R_drewN | apply Kd.R_drew)); exact HO180.out) hb); have n7_ := Aside0.mk (Kd.R_below (by (with_reducible repeat (first | apply Kd.R_alloc | apply Kd.R_drewN | apply Kd.R_drew)); exact HO183.out) hb); have n8_ := Aside0.mk (Kd.R_below (by (with_reducible repeat (first | apply Kd.R_alloc | apply Kd.R_drewN | apply Kd.R_drew)); exact HO186.out) hb); have n9_ := Aside0.mk (below_step (by repeat (first | (with_reducible first | exact HB.out | apply below_alloc | apply pw_below_drewN | apply below_drew1) | exact HB.out)) hb); have n10_ := Aside0.mk (hbox); have n11_ := Aside0.mk ((by rw [hg]; exact (below_size (by repeat (first | (with_reducible first | exact HB.out | apply below_alloc | apply pw_below_drewN | apply below_drew1) | exact HB.out))) : w.heap.size ≤ gb188)); have n12_ := Aside0.mk ((by rw [hg]; exact (below_size (by repeat (first | (with_reducible first | exact HB.out | apply below_alloc | apply pw_below_drewN | apply below_drew1) | exact HB.out))) : w.heap.size ≤ gb188)); clear HO158; clear HO161; clear HO164; clear HO169; clear HO172; clear HO175; clear HO180; clear HO183; clear HO186; clear HB; have HO158 := n0_; have HO161 := n1_; have HO164 := n2_; have HO169 := n3_; have HO172 := n4_; have HO175 := n5_; have HO180 := n6_; have HO183 := n7_; have HO186 := n8_; have HB := n9_; have BK188 := n10_; have GW188 := n11_; have GE188 := n12_; clear n0_ n1_ n2_ n3_ n4_ n5_ n6_ n7_ n8_ n9_ n10_ n11_ n12_; clear hb hbox hg; have hcz17_0 : w16.cell? ⟨gb188, 0, none⟩ = some (.int .i64 0) := (blk_cell BK188.out 0).trans rfl; have hcz17_1 : w16.cell? ⟨gb188, 1, none⟩ = some (.int .i64 0) := (blk_cell BK188.out 1).trans rfl; have hcz17_2 : w16.cell? ⟨gb188, 2, none⟩ = some (.slice none 0 0) := (blk_cell BK188.out 2).trans rfl; have hcz17_3 : w16.cell? ⟨gb188, 3, none⟩ = some (.slice none 0 0) := (blk_cell BK188.out 3).trans rfl; have hcz17_4 : w16.cell? ⟨gb188, 4, none⟩ = some (.slice none 0 0) := (blk_cell BK188.out 4).trans rfl; have hfz17_0 := blk_frozen BK188.out 0; have hfz17_1 := blk_frozen BK188.out 1; have hfz17_2 := blk_frozen BK188.out 2; have hfz17_3 := blk_frozen BK188.out 3; have hfz17_4 := blk_frozen BK188.out 4; obtain ⟨Ao18, co18, eo18⟩ := Kd.R_slice HO180.out; subst eo18; obtain ⟨Ao19, co19, eo19⟩ := Kd.R_slice HO183.out; subst eo19; obtain ⟨Ao20, co20, eo20⟩ := Kd.R_slice HO186.out; subst eo20))
    have n0_ : Aside0 (Kd.R (Kd.int .u8) 5 (((((w16.setCell ⟨gb188, 0, none⟩ (.int .i64 t176)).setCell ⟨gb188, 1, none⟩ (.int .i64 t177)).setCell ⟨gb188, 2, none⟩ (.slice Ao18 t178.length co18)).setCell ⟨gb188, 3, none⟩ (.slice Ao19 t181.length co19)).setCell ⟨gb188, 4, none⟩ (.slice Ao20 t184.length co20)) w.heap.size (fun k_ => some k_ ≠ (.slice Ao10 t159.length co10 : Value).ownBlock ∧ some k_ ≠ (.slice Ao11 t162.length co11 : Value).ownBlock ∧ some k_ ≠ (.slice Ao12 t167.length co12 : Value).ownBlock ∧ some k_ ≠ (.slice Ao13 t170.length co13 : Value).ownBlock ∧ some k_ ≠ (.slice Ao14 t173.length co14 : Value).ownBlock ∧ some k_ ≠ (.slice Ao18 t178.length co18 : Value).ownBlock ∧ some k_ ≠ (.slice Ao19 t181.length co19 : Value).ownBlock ∧ some k_ ≠ (.slice Ao20 t184.length co20 : Value).ownBlock) (.slice Ao9 t156.length co9) t156) := ⟨by (with_reducible repeat (first | apply Kd.R_alloc | apply Kd.R_drewN | apply Kd.R_drew)); exact Kd.R_mono (Kd.R_far (p := ⟨gb188, 4, none⟩) (Kd.R_far (p := ⟨gb188, 3, none⟩) (Kd.R_far (p := ⟨gb188, 2, none⟩) (Kd.R_far (p := ⟨gb188, 1, none⟩) (Kd.R_far (p := ⟨gb188, 0, none⟩) (Kd.R_types HO158.out BK188.out (by decide)) (fun _ hk => hk.2) (.int .i64 t176)) (fun _ hk => hk.2) (.int .i64 t177)) (fun _ hk => hk.2) (.slice Ao18 t178.length co18)) (fun _ hk => hk.2) (.slice Ao19 t181.length co19)) (fun _ hk => hk.2) (.slice Ao20 t184.length co20)) (fun _ hk => ⟨hk.1.1.1.1.1.1.1.1, ⟨hk.1.1.1.1.1.1.1.2, ⟨hk.1.1.1.1.1.1.2, ⟨hk.1.1.1.1.1.2, ⟨hk.1.1.1.1.2, ⟨hk.1.1.1.2, ⟨hk.1.1.2, hk.1.2⟩⟩⟩⟩⟩⟩⟩)⟩
    have n1_ : Aside0 (Kd.R (Kd.int .u8) 5 (((((w16.setCell ⟨gb188, 0, none⟩ (.int .i64 t176)).setCell ⟨gb188, 1, none⟩ (.int .i64 t177)).setCell ⟨gb188, 2, none⟩ (.slice Ao18 t178.length co18)).setCell ⟨gb188, 3, none⟩ (.slice Ao19 t181.length co19)).setCell ⟨gb188, 4, none⟩ (.slice Ao20 t184.length co20)) w.heap.size (fun k_ => some k_ ≠ (.slice Ao9 t156.length co9 : Value).ownBlock ∧ some k_ ≠ (.slice Ao11 t162.length co11 : Value).ownBlock ∧ some k_ ≠ (.slice Ao12 t167.length co12 : Value).ownBlock ∧ some k_ ≠ (.slice Ao13 t170.length co13 : Value).ownBlock ∧ some k_ ≠ (.slice Ao14 t173.length co14 : Value).ownBlock ∧ some k_ ≠ (.slice Ao18 t178.length co18 : Value).ownBlock ∧ some k_ ≠ (.slice Ao19 t181.length co19 : Value).ownBlock ∧ some k_ ≠ (.slice Ao20 t184.length co20 : Value).ownBlock) (.slice Ao10 t159.length co10) t159) := ⟨by (with_reducible repeat (first | apply Kd.R_alloc | apply Kd.R_drewN | apply Kd.R_drew)); exact Kd.R_mono (Kd.R_far (p := ⟨gb188, 4, none⟩) (Kd.R_far (p := ⟨gb188, 3, none⟩) (Kd.R_far (p := ⟨gb188, 2, none⟩) (Kd.R_far (p := ⟨gb188, 1, none⟩) (Kd.R_far (p := ⟨gb188, 0, none⟩) (Kd.R_types HO161.out BK188.out (by decide)) (fun _ hk => hk.2) (.int .i64 t176)) (fun _ hk => hk.2) (.int .i64 t177)) (fun _ hk => hk.2) (.slice Ao18 t178.length co18)) (fun _ hk => hk.2) (.slice Ao19 t181.length co19)) (fun _ hk => hk.2) (.slice Ao20 t184.length co20)) (fun _ hk => ⟨hk.1.1.1.1.1.1.1.1, ⟨hk.1.1.1.1.1.1.1.2, ⟨hk.1.1.1.1.1.1.2, ⟨hk.1.1.1.1.1.2, ⟨hk.1.1.1.1.2, ⟨hk.1.1.1.2, ⟨hk.1.1.2, hk.1.2⟩⟩⟩⟩⟩⟩⟩)⟩
    have n2_ : Aside0 (Kd.R (Kd.int .u8) 5 (((((w16.setCell ⟨gb188, 0, none⟩ (.int .i64 t176)).setCell ⟨gb188, 1, none⟩ (.int .i64 t177)).setCell ⟨gb188, 2, none⟩ (.slice Ao18 t178.length co18)).setCell ⟨gb188, 3, none⟩ (.slice Ao19 t181.length co19)).setCell ⟨gb188, 4, none⟩ (.slice Ao20 t184.length co20)) w.heap.size (fun k_ => some k_ ≠ (.slice Ao9 t156.length co9 : Value).ownBlock ∧ some k_ ≠ (.slice Ao10 t159.length co10 : Value).ownBlock ∧ some k_ ≠ (.slice Ao12 t167.length co12 : Value).ownBlock ∧ some k_ ≠ (.slice Ao13 t170.length co13 : Value).ownBlock ∧ some k_ ≠ (.slice Ao14 t173.length co14 : Value).ownBlock ∧ some k_ ≠ (.slice Ao18 t178.length co18 : Value).ownBlock ∧ some k_ ≠ (.slice Ao19 t181.length co19 : Value).ownBlock ∧ some k_ ≠ (.slice Ao20 t184.length co20 : Value).ownBlock) (.slice Ao11 t162.length co11) t162) := ⟨by (with_reducible repeat (first | apply Kd.R_alloc | apply Kd.R_drewN | apply Kd.R_drew)); exact Kd.R_mono (Kd.R_far (p := ⟨gb188, 4, none⟩) (Kd.R_far (p := ⟨gb188, 3, none⟩) (Kd.R_far (p := ⟨gb188, 2, none⟩) (Kd.R_far (p := ⟨gb188, 1, none⟩) (Kd.R_far (p := ⟨gb188, 0, none⟩) (Kd.R_types HO164.out BK188.out (by decide)) (fun _ hk => hk.2) (.int .i64 t176)) (fun _ hk => hk.2) (.int .i64 t177)) (fun _ hk => hk.2) (.slice Ao18 t178.length co18)) (fun _ hk => hk.2) (.slice Ao19 t181.length co19)) (fun _ hk => hk.2) (.slice Ao20 t184.length co20)) (fun _ hk => ⟨hk.1.1.1.1.1.1.1.1, ⟨hk.1.1.1.1.1.1.1.2, ⟨hk.1.1.1.1.1.1.2, ⟨hk.1.1.1.1.1.2, ⟨hk.1.1.1.1.2, ⟨hk.1.1.1.2, ⟨hk.1.1.2, hk.1.2⟩⟩⟩⟩⟩⟩⟩)⟩
    have n3_ : Aside0 (Kd.R (Kd.int .u8) 5 (((((w16.setCell ⟨gb188, 0, none⟩ (.int .i64 t176)).setCell ⟨gb188, 1, none⟩ (.int .i64 t177)).setCell ⟨gb188, 2, none⟩ (.slice Ao18 t178.length co18)).setCell ⟨gb188, 3, none⟩ (.slice Ao19 t181.length co19)).setCell ⟨gb188, 4, none⟩ (.slice Ao20 t184.length co20)) w.heap.size (fun k_ => some k_ ≠ (.slice Ao9 t156.length co9 : Value).ownBlock ∧ some k_ ≠ (.slice Ao10 t159.length co10 : Value).ownBlock ∧ some k_ ≠ (.slice Ao11 t162.length co11 : Value).ownBlock ∧ some k_ ≠ (.slice Ao13 t170.length co13 : Value).ownBlock ∧ some k_ ≠ (.slice Ao14 t173.length co14 : Value).ownBlock ∧ some k_ ≠ (.slice Ao18 t178.length co18 : Value).ownBlock ∧ some k_ ≠ (.slice Ao19 t181.length co19 : Value).ownBlock ∧ some k_ ≠ (.slice Ao20 t184.length co20 : Value).ownBlock) (.slice Ao12 t167.length co12) t167) := ⟨by (with_reducible repeat (first | apply Kd.R_alloc | apply Kd.R_drewN | apply Kd.R_drew)); exact Kd.R_mono (Kd.R_far (p := ⟨gb188, 4, none⟩) (Kd.R_far (p := ⟨gb188, 3, none⟩) (Kd.R_far (p := ⟨gb188, 2, none⟩) (Kd.R_far (p := ⟨gb188, 1, none⟩) (Kd.R_far (p := ⟨gb188, 0, none⟩) (Kd.R_types HO169.out BK188.out (by decide)) (fun _ hk => hk.2) (.int .i64 t176)) (fun _ hk => hk.2) (.int .i64 t177)) (fun _ hk => hk.2) (.slice Ao18 t178.length co18)) (fun _ hk => hk.2) (.slice Ao19 t181.length co19)) (fun _ hk => hk.2) (.slice Ao20 t184.length co20)) (fun _ hk => ⟨hk.1.1.1.1.1.1.2, ⟨hk.1.1.1.1.1.2, ⟨hk.1.1.1.1.2, ⟨hk.1.1.1.1.1.1.1.1, ⟨hk.1.1.1.1.1.1.1.2, ⟨hk.1.1.1.2, ⟨hk.1.1.2, hk.1.2⟩⟩⟩⟩⟩⟩⟩)⟩
    have n4_ : Aside0 (Kd.R (Kd.int .u8) 5 (((((w16.setCell ⟨gb188, 0, none⟩ (.int .i64 t176)).setCell ⟨gb188, 1, none⟩ (.int .i64 t177)).setCell ⟨gb188, 2, none⟩ (.slice Ao18 t178.length co18)).setCell ⟨gb188, 3, none⟩ (.slice Ao19 t181.length co19)).setCell ⟨gb188, 4, none⟩ (.slice Ao20 t184.length co20)) w.heap.size (fun k_ => some k_ ≠ (.slice Ao9 t156.length co9 : Value).ownBlock ∧ some k_ ≠ (.slice Ao10 t159.length co10 : Value).ownBlock ∧ some k_ ≠ (.slice Ao11 t162.length co11 : Value).ownBlock ∧ some k_ ≠ (.slice Ao12 t167.length co12 : Value).ownBlock ∧ some k_ ≠ (.slice Ao14 t173.length co14 : Value).ownBlock ∧ some k_ ≠ (.slice Ao18 t178.length co18 : Value).ownBlock ∧ some k_ ≠ (.slice Ao19 t181.length co19 : Value).ownBlock ∧ some k_ ≠ (.slice Ao20 t184.length co20 : Value).ownBlock) (.slice Ao13 t170.length co13) t170) := ⟨by (with_reducible repeat (first | apply Kd.R_alloc | apply Kd.R_drewN | apply Kd.R_drew)); exact Kd.R_mono (Kd.R_far (p := ⟨gb188, 4, none⟩) (Kd.R_far (p := ⟨gb188, 3, none⟩) (Kd.R_far (p := ⟨gb188, 2, none⟩) (Kd.R_far (p := ⟨gb188, 1, none⟩) (Kd.R_far (p := ⟨gb188, 0, none⟩) (Kd.R_types HO172.out BK188.out (by decide)) (fun _ hk => hk.2) (.int .i64 t176)) (fun _ hk => hk.2) (.int .i64 t177)) (fun _ hk => hk.2) (.slice Ao18 t178.length co18)) (fun _ hk => hk.2) (.slice Ao19 t181.length co19)) (fun _ hk => hk.2) (.slice Ao20 t184.length co20)) (fun _ hk => ⟨hk.1.1.1.1.1.1.2, ⟨hk.1.1.1.1.1.2, ⟨hk.1.1.1.1.2, ⟨hk.1.1.1.1.1.1.1.1, ⟨hk.1.1.1.1.1.1.1.2, ⟨hk.1.1.1.2, ⟨hk.1.1.2, hk.1.2⟩⟩⟩⟩⟩⟩⟩)⟩
    have n5_ : Aside0 (Kd.R (Kd.int .u8) 5 (((((w16.setCell ⟨gb188, 0, none⟩ (.int .i64 t176)).setCell ⟨gb188, 1, none⟩ (.int .i64 t177)).setCell ⟨gb188, 2, none⟩ (.slice Ao18 t178.length co18)).setCell ⟨gb188, 3, none⟩ (.slice Ao19 t181.length co19)).setCell ⟨gb188, 4, none⟩ (.slice Ao20 t184.length co20)) w.heap.size (fun k_ => some k_ ≠ (.slice Ao9 t156.length co9 : Value).ownBlock ∧ some k_ ≠ (.slice Ao10 t159.length co10 : Value).ownBlock ∧ some k_ ≠ (.slice Ao11 t162.length co11 : Value).ownBlock ∧ some k_ ≠ (.slice Ao12 t167.length co12 : Value).ownBlock ∧ some k_ ≠ (.slice Ao13 t170.length co13 : Value).ownBlock ∧ some k_ ≠ (.slice Ao18 t178.length co18 : Value).ownBlock ∧ some k_ ≠ (.slice Ao19 t181.length co19 : Value).ownBlock ∧ some k_ ≠ (.slice Ao20 t184.length co20 : Value).ownBlock) (.slice Ao14 t173.length co14) t173) := ⟨by (with_reducible repeat (first | apply Kd.R_alloc | apply Kd.R_drewN | apply Kd.R_drew)); exact Kd.R_mono (Kd.R_far (p := ⟨gb188, 4, none⟩) (Kd.R_far (p := ⟨gb188, 3, none⟩) (Kd.R_far (p := ⟨gb188, 2, none⟩) (Kd.R_far (p := ⟨gb188, 1, none⟩) (Kd.R_far (p := ⟨gb188, 0, none⟩) (Kd.R_types HO175.out BK188.out (by decide)) (fun _ hk => hk.2) (.int .i64 t176)) (fun _ hk => hk.2) (.int .i64 t177)) (fun _ hk => hk.2) (.slice Ao18 t178.length co18)) (fun _ hk => hk.2) (.slice Ao19 t181.length co19)) (fun _ hk => hk.2) (.slice Ao20 t184.length co20)) (fun _ hk => ⟨hk.1.1.1.1.1.1.2, ⟨hk.1.1.1.1.1.2, ⟨hk.1.1.1.1.2, ⟨hk.1.1.1.1.1.1.1.1, ⟨hk.1.1.1.1.1.1.1.2, ⟨hk.1.1.1.2, ⟨hk.1.1.2, hk.1.2⟩⟩⟩⟩⟩⟩⟩)⟩
    have n6_ : Aside0 (Kd.R (Kd.int .u8) 5 (((((w16.setCell ⟨gb188, 0, none⟩ (.int .i64 t176)).setCell ⟨gb188, 1, none⟩ (.int .i64 t177)).setCell ⟨gb188, 2, none⟩ (.slice Ao18 t178.length co18)).setCell ⟨gb188, 3, none⟩ (.slice Ao19 t181.length co19)).setCell ⟨gb188, 4, none⟩ (.slice Ao20 t184.length co20)) w.heap.size (fun k_ => some k_ ≠ (.slice Ao9 t156.length co9 : Value).ownBlock ∧ some k_ ≠ (.slice Ao10 t159.length co10 : Value).ownBlock ∧ some k_ ≠ (.slice Ao11 t162.length co11 : Value).ownBlock ∧ some k_ ≠ (.slice Ao12 t167.length co12 : Value).ownBlock ∧ some k_ ≠ (.slice Ao13 t170.length co13 : Value).ownBlock ∧ some k_ ≠ (.slice Ao14 t173.length co14 : Value).ownBlock ∧ some k_ ≠ (.slice Ao19 t181.length co19 : Value).ownBlock ∧ some k_ ≠ (.slice Ao20 t184.length co20 : Value).ownBlock) (.slice Ao18 t178.length co18) t178) := ⟨by (with_reducible repeat (first | apply Kd.R_alloc | apply Kd.R_drewN | apply Kd.R_drew)); exact Kd.R_mono (Kd.R_far (p := ⟨gb188, 4, none⟩) (Kd.R_far (p := ⟨gb188, 3, none⟩) (Kd.R_far (p := ⟨gb188, 2, none⟩) (Kd.R_far (p := ⟨gb188, 1, none⟩) (Kd.R_far (p := ⟨gb188, 0, none⟩) (Kd.R_types HO180.out BK188.out (by decide)) (fun _ hk => hk.2) (.int .i64 t176)) (fun _ hk => hk.2) (.int .i64 t177)) (fun _ hk => hk.2) (.slice Ao18 t178.length co18)) (fun _ hk => hk.2) (.slice Ao19 t181.length co19)) (fun _ hk => hk.2) (.slice Ao20 t184.length co20)) (fun _ hk => ⟨hk.1.1.1.1.1.1.2, ⟨hk.1.1.1.1.1.2, ⟨hk.1.1.1.1.2, ⟨hk.1.1.1.2, ⟨hk.1.1.2, ⟨hk.1.2, ⟨hk.1.1.1.1.1.1.1.1, hk.1.1.1.1.1.1.1.2⟩⟩⟩⟩⟩⟩⟩)⟩
    have n7_ : Aside0 (Kd.R (Kd.int .u8) 5 (((((w16.setCell ⟨gb188, 0, none⟩ (.int .i64 t176)).setCell ⟨gb188, 1, none⟩ (.int .i64 t177)).setCell ⟨gb188, 2, none⟩ (.slice Ao18 t178.length co18)).setCell ⟨gb188, 3, none⟩ (.slice Ao19 t181.length co19)).setCell ⟨gb188, 4, none⟩ (.slice Ao20 t184.length co20)) w.heap.size (fun k_ => some k_ ≠ (.slice Ao9 t156.length co9 : Value).ownBlock ∧ some k_ ≠ (.slice Ao10 t159.length co10 : Value).ownBlock ∧ some k_ ≠ (.slice Ao11 t162.length co11 : Value).ownBlock ∧ some k_ ≠ (.slice Ao12 t167.length co12 : Value).ownBlock ∧ some k_ ≠ (.slice Ao13 t170.length co13 : Value).ownBlock ∧ some k_ ≠ (.slice Ao14 t173.length co14 : Value).ownBlock ∧ some k_ ≠ (.slice Ao18 t178.length co18 : Value).ownBlock ∧ some k_ ≠ (.slice Ao20 t184.length co20 : Value).ownBlock) (.slice Ao19 t181.length co19) t181) := ⟨by (with_reducible repeat (first | apply Kd.R_alloc | apply Kd.R_drewN | apply Kd.R_drew)); exact Kd.R_mono (Kd.R_far (p := ⟨gb188, 4, none⟩) (Kd.R_far (p := ⟨gb188, 3, none⟩) (Kd.R_far (p := ⟨gb188, 2, none⟩) (Kd.R_far (p := ⟨gb188, 1, none⟩) (Kd.R_far (p := ⟨gb188, 0, none⟩) (Kd.R_types HO183.out BK188.out (by decide)) (fun _ hk => hk.2) (.int .i64 t176)) (fun _ hk => hk.2) (.int .i64 t177)) (fun _ hk => hk.2) (.slice Ao18 t178.length co18)) (fun _ hk => hk.2) (.slice Ao19 t181.length co19)) (fun _ hk => hk.2) (.slice Ao20 t184.length co20)) (fun _ hk => ⟨hk.1.1.1.1.1.1.2, ⟨hk.1.1.1.1.1.2, ⟨hk.1.1.1.1.2, ⟨hk.1.1.1.2, ⟨hk.1.1.2, ⟨hk.1.2, ⟨hk.1.1.1.1.1.1.1.1, hk.1.1.1.1.1.1.1.2⟩⟩⟩⟩⟩⟩⟩)⟩
    have n8_ : Aside0 (Kd.R (Kd.int .u8) 5 (((((w16.setCell ⟨gb188, 0, none⟩ (.int .i64 t176)).setCell ⟨gb188, 1, none⟩ (.int .i64 t177)).setCell ⟨gb188, 2, none⟩ (.slice Ao18 t178.length co18)).setCell ⟨gb188, 3, none⟩ (.slice Ao19 t181.length co19)).setCell ⟨gb188, 4, none⟩ (.slice Ao20 t184.length co20)) w.heap.size (fun k_ => some k_ ≠ (.slice Ao9 t156.length co9 : Value).ownBlock ∧ some k_ ≠ (.slice Ao10 t159.length co10 : Value).ownBlock ∧ some k_ ≠ (.slice Ao11 t162.length co11 : Value).ownBlock ∧ some k_ ≠ (.slice Ao12 t167.length co12 : Value).ownBlock ∧ some k_ ≠ (.slice Ao13 t170.length co13 : Value).ownBlock ∧ some k_ ≠ (.slice Ao14 t173.length co14 : Value).ownBlock ∧ some k_ ≠ (.slice Ao18 t178.length co18 : Value).ownBlock ∧ some k_ ≠ (.slice Ao19 t181.length co19 : Value).ownBlock) (.slice Ao20 t184.length co20) t184) := ⟨by (with_reducible repeat (first | apply Kd.R_alloc | apply Kd.R_drewN | apply Kd.R_drew)); exact Kd.R_mono (Kd.R_far (p := ⟨gb188, 4, none⟩) (Kd.R_far (p := ⟨gb188, 3, none⟩) (Kd.R_far (p := ⟨gb188, 2, none⟩) (Kd.R_far (p := ⟨gb188, 1, none⟩) (Kd.R_far (p := ⟨gb188, 0, none⟩) (Kd.R_types HO186.out BK188.out (by decide)) (fun _ hk => hk.2) (.int .i64 t176)) (fun _ hk => hk.2) (.int .i64 t177)) (fun _ hk => hk.2) (.slice Ao18 t178.length co18)) (fun _ hk => hk.2) (.slice Ao19 t181.length co19)) (fun _ hk => hk.2) (.slice Ao20 t184.length co20)) (fun _ hk => ⟨hk.1.1.1.1.1.1.2, ⟨hk.1.1.1.1.1.2, ⟨hk.1.1.1.1.2, ⟨hk.1.1.1.2, ⟨hk.1.1.2, ⟨hk.1.2, ⟨hk.1.1.1.1.1.1.1.1, hk.1.1.1.1.1.1.1.2⟩⟩⟩⟩⟩⟩⟩)⟩
    have n9_ : Aside0 ((((((w16.setCell ⟨gb188, 0, none⟩ (.int .i64 t176)).setCell ⟨gb188, 1, none⟩ (.int .i64 t177)).setCell ⟨gb188, 2, none⟩ (.slice Ao18 t178.length co18)).setCell ⟨gb188, 3, none⟩ (.slice Ao19 t181.length co19)).setCell ⟨gb188, 4, none⟩ (.slice Ao20 t184.length co20)).heap[gb188]? = some (.cells #[.int .i64 t176, .int .i64 t177, .slice Ao18 t178.length co18, .slice Ao19 t181.length co19, .slice Ao20 t184.length co20] 24 (0, 0))) := ⟨by (with_reducible repeat (first | refine blk_drewN ?_ _ | refine blk_drew ?_ | refine blk_alloc ?_ _)); refine blk_put (cs := #[.int .i64 t176, .int .i64 t177, .slice Ao18 t178.length co18, .slice Ao19 t181.length co19, .slice none 0 0]) ?_ 4 _ rfl; (with_reducible repeat (first | refine blk_drewN ?_ _ | refine blk_drew ?_ | refine blk_alloc ?_ _)); refine blk_put (cs := #[.int .i64 t176, .int .i64 t177, .slice Ao18 t178.length co18, .slice none 0 0, .slice none 0 0]) ?_ 3 _ rfl; (with_reducible repeat (first | refine blk_drewN ?_ _ | refine blk_drew ?_ | refine blk_alloc ?_ _)); refine blk_put (cs := #[.int .i64 t176, .int .i64 t177, .slice none 0 0, .slice none 0 0, .slice none 0 0]) ?_ 2 _ rfl; (with_reducible repeat (first | refine blk_drewN ?_ _ | refine blk_drew ?_ | refine blk_alloc ?_ _)); refine blk_put (cs := #[.int .i64 t176, .int .i64 0, .slice none 0 0, .slice none 0 0, .slice none 0 0]) ?_ 1 _ rfl; (with_reducible repeat (first | refine blk_drewN ?_ _ | refine blk_drew ?_ | refine blk_alloc ?_ _)); refine blk_put (cs := #[.int .i64 0, .int .i64 0, .slice none 0 0, .slice none 0 0, .slice none 0 0]) ?_ 0 _ rfl; (with_reducible repeat (first | refine blk_drewN ?_ _ | refine blk_drew ?_ | refine blk_alloc ?_ _)); exact BK188.out⟩
    have n10_ : Aside0 (Below w.heap.size w (((((w16.setCell ⟨gb188, 0, none⟩ (.int .i64 t176)).setCell ⟨gb188, 1, none⟩ (.int .i64 t177)).setCell ⟨gb188, 2, none⟩ (.slice Ao18 t178.length co18)).setCell ⟨gb188, 3, none⟩ (.slice Ao19 t181.length co19)).setCell ⟨gb188, 4, none⟩ (.slice Ao20 t184.length co20))) := ⟨by repeat (first | (with_reducible first | exact HB.out | apply below_alloc | apply pw_below_drewN | apply below_drew1 | refine below_set ?_ GE188.out) | exact HB.out)⟩
    (try clear HO158)
    (try clear HO161)
    (try clear HO164)
    (try clear HO169)
    (try clear HO172)
    (try clear HO175)
    (try clear HO180)
    (try clear HO183)
    (try clear HO186)
    (try clear BK188)
    (try clear HB)
    generalize (((((w16.setCell ⟨gb188, 0, none⟩ (.int .i64 t176)).setCell ⟨gb188, 1, none⟩ (.int .i64 t177)).setCell ⟨gb188, 2, none⟩ (.slice Ao18 t178.length co18)).setCell ⟨gb188, 3, none⟩ (.slice Ao19 t181.length co19)).setCell ⟨gb188, 4, none⟩ (.slice Ao20 t184.length co20)) = w21 at n0_ n1_ n2_ n3_ n4_ n5_ n6_ n7_ n8_ n9_ n10_ ⊢
    have HO158 := n0_
    have HO161 := n1_
    have HO164 := n2_
    have HO169 := n3_
    have HO172 := n4_
    have HO175 := n5_
    have HO180 := n6_
    have HO183 := n7_
    have HO186 := n8_
    have BK188 := n9_
    have HB := n10_
    clear n0_ n1_ n2_ n3_ n4_ n5_ n6_ n7_ n8_ n9_ n10_
    have n0_ := Aside0.mk (Kd.R_drew HO158.out)
    have n1_ := Aside0.mk (Kd.R_drew HO161.out)
    have n2_ := Aside0.mk (Kd.R_drew HO164.out)
    have n3_ := Aside0.mk (Kd.R_drew HO169.out)
    have n4_ := Aside0.mk (Kd.R_drew HO172.out)
    have n5_ := Aside0.mk (Kd.R_drew HO175.out)
    have n6_ := Aside0.mk (Kd.R_drew HO180.out)
    have n7_ := Aside0.mk (Kd.R_drew HO183.out)
    have n8_ := Aside0.mk (Kd.R_drew HO186.out)
    have n9_ := Aside0.mk (blk_drew BK188.out)
    have n10_ := Aside0.mk (below_drew1 HB.out)
    clear HO158
    clear HO161
    clear HO164
    clear HO169
    clear HO172
    clear HO175
    clear HO180
    clear HO183
    clear HO186
    clear BK188
    clear HB
    have HO158 := n0_
    have HO161 := n1_
    have HO164 := n2_
    have HO169 := n3_
    have HO172 := n4_
    have HO175 := n5_
    have HO180 := n6_
    have HO183 := n7_
    have HO186 := n8_
    have BK188 := n9_
    have HB := n10_
    clear n0_ n1_ n2_ n3_ n4_ n5_ n6_ n7_ n8_ n9_ n10_
    refine start_ (n := 8) (S := fun w' => w'.cell? ⟨gb188, 0, none⟩ = some (.int .i64 t176) ∧ w'.cell? ⟨gb188, 1, none⟩ = some (.int .i64 t177) ∧ w'.cell? ⟨gb188, 2, none⟩ = some (.slice Ao18 t178.length co18) ∧ w'.cell? ⟨gb188, 3, none⟩ = some (.slice Ao19 t181.length co19) ∧ w'.cell? ⟨gb188, 4, none⟩ = some (.slice Ao20 t184.length co20)) (ds := []) #[false, false, false, false, false, false, false, false] (by kernel_rfl) rfl rfl ⟨(blk_cell BK188.out 0).trans rfl, (blk_cell BK188.out 1).trans rfl, (blk_cell BK188.out 2).trans rfl, (blk_cell BK188.out 3).trans rfl, (blk_cell BK188.out 4).trans rfl⟩ (fun hHeld => ?_); refine with_tabW cutroomlaw08_awake.tab2 cutroomlaw08_awake.bits2 (fun HT_ HW_ => ?_)
    generalize w21.drew = w22 at HO158 HO161 HO164 HO169 HO172 HO175 HO180 HO183 HO186 BK188 HB hHeld ⊢
    refine pure_ (i := 0) (N := some 9) (v := ?_) (a' := ?_) #[true, false, false, false, false, false, false, false] rfl rfl (any_of HT_.out (by kernel_rfl)) (fun _ _ _ h => h) (Or.inl ⟨by rfl, ?_⟩) ?_ ?_
    rotate_left
    · intro w'
      go_simp
      with_reducible rfl
    rotate_left
    · simp only [Act.put, List.setIfInBounds_toArray, List.set_cons_zero, List.set_cons_succ, i64_w, i32_w]
      rfl
    refine pure_ (i := 1) (N := some 10) (v := ?_) (a' := ?_) #[true, true, false, false, false, false, false, false] rfl rfl (any_of HT_.out (by kernel_rfl)) (fun _ _ _ h => h) (Or.inl ⟨by rfl, ?_⟩) ?_ ?_
    rotate_left
    · intro w'
      go_simp
      with_reducible rfl
    rotate_left
    · simp only [Act.put, List.setIfInBounds_toArray, List.set_cons_zero, List.set_cons_succ, i64_w, i32_w]
      rfl
    refine pure_ (i := 2) (N := some 11) (v := ?_) (a' := ?_) #[true, true, true, false, false, false, false, false] rfl rfl (any_of HT_.out (by kernel_rfl)) (fun _ _ _ h => h) (Or.inl ⟨by rfl, ?_⟩) ?_ ?_
    rotate_left
    · intro w'
      go_simp
      with_reducible rfl
    rotate_left
    · simp only [Act.put, List.setIfInBounds_toArray, List.set_cons_zero, List.set_cons_succ, i64_w, i32_w]
      rfl
    refine take_ (i := 3) (N := some 12) (v := ?_) (a' := ?_) #[true, true, true, true, false, false, false, false] rfl rfl (take_ofW HT_.out HW_.out (by kernel_rfl)) (fun _ _ _ h => h) (Or.inl ⟨by rfl, ?_⟩) hHeld ?_ ?_
    rotate_left
    · rintro w' ⟨s0, s1, s2, s3, s4⟩
      go_simp
      with_reducible rfl
    rotate_left
    · simp only [Act.put, List.setIfInBounds_toArray, List.set_cons_zero, List.set_cons_succ, i64_w, i32_w]
      rfl
    refine one_ (i := 4) (N := some 13) #[true, true, true, true, true, false, false, false] rfl rfl (one_of HT_.out (by kernel_rfl)) (by decide) (fun K hK => ?_)
    refine goes_ Try.func29 (by kernel_rfl) rfl #[.int .i64 16, .int .i64 16, .int .u8 2, .int .u8 0, .int .u8 1] (by rfl) rfl rfl (by (try simp only [List.map_toArray, List.map_cons, List.map_nil]); first | done | rfl | (simp only [List.length_drop, List.length_take]; rfl)) ?_
    with_reducible refine (cutroomref07_Flat.calls k 16 16 2 0 1 t189 t190 t191 t194 t197 _ A5.out).mono ?_
    rintro e w23 ⟨v192, v195, v198, rfl, ho0, ho1, ho2, hb⟩
    refine ⟨_, rfl, ?_⟩
    have n0_ := Aside0.mk (Kd.R_mono (Kd.R_told (Kd.R_told (Kd.R_told (Kd.R_old (by (with_reducible repeat (first | apply Kd.R_alloc | apply Kd.R_drewN | apply Kd.R_drew)); exact HO158.out) hb) (Kd.R_base ho0)) (Kd.R_base ho1)) (Kd.R_base ho2)) (fun _ h_ => h_.1))
    have n1_ := Aside0.mk (Kd.R_mono (Kd.R_told (Kd.R_told (Kd.R_told (Kd.R_old (by (with_reducible repeat (first | apply Kd.R_alloc | apply Kd.R_drewN | apply Kd.R_drew)); exact HO161.out) hb) (Kd.R_base ho0)) (Kd.R_base ho1)) (Kd.R_base ho2)) (fun _ h_ => h_.1))
    have n2_ := Aside0.mk (Kd.R_mono (Kd.R_told (Kd.R_told (Kd.R_told (Kd.R_old (by (with_reducible repeat (first | apply Kd.R_alloc | apply Kd.R_drewN | apply Kd.R_drew)); exact HO164.out) hb) (Kd.R_base ho0)) (Kd.R_base ho1)) (Kd.R_base ho2)) (fun _ h_ => h_.1))
    have n3_ := Aside0.mk (Kd.R_mono (Kd.R_told (Kd.R_told (Kd.R_told (Kd.R_old (by (with_reducible repeat (first | apply Kd.R_alloc | apply Kd.R_drewN | apply Kd.R_drew)); exact HO169.out) hb) (Kd.R_base ho0)) (Kd.R_base ho1)) (Kd.R_base ho2)) (fun _ h_ => h_.1))
    have n4_ := Aside0.mk (Kd.R_mono (Kd.R_told (Kd.R_told (Kd.R_told (Kd.R_old (by (with_reducible repeat (first | apply Kd.R_alloc | apply Kd.R_drewN | apply Kd.R_drew)); exact HO172.out) hb) (Kd.R_base ho0)) (Kd.R_base ho1)) (Kd.R_base ho2)) (fun _ h_ => h_.1))
    have n5_ := Aside0.mk (Kd.R_mono (Kd.R_told (Kd.R_told (Kd.R_told (Kd.R_old (by (with_reducible repeat (first | apply Kd.R_alloc | apply Kd.R_drewN | apply Kd.R_drew)); exact HO175.out) hb) (Kd.R_base ho0)) (Kd.R_base ho1)) (Kd.R_base ho2)) (fun _ h_ => h_.1))
    have n6_ := Aside0.mk (Kd.R_mono (Kd.R_told (Kd.R_told (Kd.R_told (Kd.R_old (by (with_reducible repeat (first | apply Kd.R_alloc | apply Kd.R_drewN | apply Kd.R_drew)); exact HO180.out) hb) (Kd.R_base ho0)) (Kd.R_base ho1)) (Kd.R_base ho2)) (fun _ h_ => h_.1))
    have n7_ := Aside0.mk (Kd.R_mono (Kd.R_told (Kd.R_told (Kd.R_told (Kd.R_old (by (with_reducible repeat (first | apply Kd.R_alloc | apply Kd.R_drewN | apply Kd.R_drew)); exact HO183.out) hb) (Kd.R_base ho0)) (Kd.R_base ho1)) (Kd.R_base ho2)) (fun _ h_ => h_.1))
    have n8_ := Aside0.mk (Kd.R_mono (Kd.R_told (Kd.R_told (Kd.R_told (Kd.R_old (by (with_reducible repeat (first | apply Kd.R_alloc | apply Kd.R_drewN | apply Kd.R_drew)); exact HO186.out) hb) (Kd.R_base ho0)) (Kd.R_base ho1)) (Kd.R_base ho2)) (fun _ h_ => h_.1))
    have n9_ := Aside0.mk (Kd.R_lower (Kd.R_new' (Kd.R_new' (Kd.R_new' (Kd.R_new' (Kd.R_new' (Kd.R_new' (Kd.R_new' (Kd.R_new' (Kd.R_new' ho0 (Kd.R_lt (by (with_reducible repeat (first | apply Kd.R_alloc | apply Kd.R_drewN | apply Kd.R_drew)); exact HO158.out))) (Kd.R_lt (by (with_reducible repeat (first | apply Kd.R_alloc | apply Kd.R_drewN | apply Kd.R_drew)); exact HO161.out))) (Kd.R_lt (by (with_reducible repeat (first | apply Kd.R_alloc | apply Kd.R_drewN | apply Kd.R_drew)); exact HO164.out))) (Kd.R_lt (by (with_reducible repeat (first | apply Kd.R_alloc | apply Kd.R_drewN | apply Kd.R_drew)); exact HO169.out))) (Kd.R_lt (by (with_reducible repeat (first | apply Kd.R_alloc | apply Kd.R_drewN | apply Kd.R_drew)); exact HO172.out))) (Kd.R_lt (by (with_reducible repeat (first | apply Kd.R_alloc | apply Kd.R_drewN | apply Kd.R_drew)); exact HO175.out))) (Kd.R_lt (by (with_reducible repeat (first | apply Kd.R_alloc | apply Kd.R_drewN | apply Kd.R_drew)); exact HO180.out))) (Kd.R_lt (by (with_reducible repeat (first | apply Kd.R_alloc | apply Kd.R_drewN | apply Kd.R_drew)); exact HO183.out))) (Kd.R_lt (by (with_reducible repeat (first | apply Kd.R_alloc | apply Kd.R_drewN | apply Kd.R_drew)); exact HO186.out))) (below_size (by repeat (first | (with_reducible first | exact HB.out | apply below_alloc | apply pw_below_drewN | apply below_drew1 | refine below_set ?_ GE188.out) | exact HB.out))))
    have n10_ := Aside0.mk (Kd.R_lower (Kd.R_new' (Kd.R_new' (Kd.R_new' (Kd.R_new' (Kd.R_new' (Kd.R_new' (Kd.R_new' (Kd.R_new' (Kd.R_new' ho1 (Kd.R_lt (by (with_reducible repeat (first | apply Kd.R_alloc | apply Kd.R_drewN | apply Kd.R_drew)); exact HO158.out))) (Kd.R_lt (by (with_reducible repeat (first | apply Kd.R_alloc | apply Kd.R_drewN | apply Kd.R_drew)); exact HO161.out))) (Kd.R_lt (by (with_reducible repeat (first | apply Kd.R_alloc | apply Kd.R_drewN | apply Kd.R_drew)); exact HO164.out))) (Kd.R_lt (by (with_reducible repeat (first | apply Kd.R_alloc | apply Kd.R_drewN | apply Kd.R_drew)); exact HO169.out))) (Kd.R_lt (by (with_reducible repeat (first | apply Kd.R_alloc | apply Kd.R_drewN | apply Kd.R_drew)); exact HO172.out))) (Kd.R_lt (by (with_reducible repeat (first | apply Kd.R_alloc | apply Kd.R_drewN | apply Kd.R_drew)); exact HO175.out))) (Kd.R_lt (by (with_reducible repeat (first | apply Kd.R_alloc | apply Kd.R_drewN | apply Kd.R_drew)); exact HO180.out))) (Kd.R_lt (by (with_reducible repeat (first | apply Kd.R_alloc | apply Kd.R_drewN | apply Kd.R_drew)); exact HO183.out))) (Kd.R_lt (by (with_reducible repeat (first | apply Kd.R_alloc | apply Kd.R_drewN | apply Kd.R_drew)); exact HO186.out))) (below_size (by repeat (first | (with_reducible first | exact HB.out | apply below_alloc | apply pw_below_drewN | apply below_drew1 | refine below_set ?_ GE188.out) | exact HB.out))))
    have n11_ := Aside0.mk (Kd.R_lower (Kd.R_new' (Kd.R_new' (Kd.R_new' (Kd.R_new' (Kd.R_new' (Kd.R_new' (Kd.R_new' (Kd.R_new' (Kd.R_new' ho2 (Kd.R_lt (by (with_reducible repeat (first | apply Kd.R_alloc | apply Kd.R_drewN | apply Kd.R_drew)); exact HO158.out))) (Kd.R_lt (by (with_reducible repeat (first | apply Kd.R_alloc | apply Kd.R_drewN | apply Kd.R_drew)); exact HO161.out))) (Kd.R_lt (by (with_reducible repeat (first | apply Kd.R_alloc | apply Kd.R_drewN | apply Kd.R_drew)); exact HO164.out))) (Kd.R_lt (by (with_reducible repeat (first | apply Kd.R_alloc | apply Kd.R_drewN | apply Kd.R_drew)); exact HO169.out))) (Kd.R_lt (by (with_reducible repeat (first | apply Kd.R_alloc | apply Kd.R_drewN | apply Kd.R_drew)); exact HO172.out))) (Kd.R_lt (by (with_reducible repeat (first | apply Kd.R_alloc | apply Kd.R_drewN | apply Kd.R_drew)); exact HO175.out))) (Kd.R_lt (by (with_reducible repeat (first | apply Kd.R_alloc | apply Kd.R_drewN | apply Kd.R_drew)); exact HO180.out))) (Kd.R_lt (by (with_reducible repeat (first | apply Kd.R_alloc | apply Kd.R_drewN | apply Kd.R_drew)); exact HO183.out))) (Kd.R_lt (by (with_reducible repeat (first | apply Kd.R_alloc | apply Kd.R_drewN | apply Kd.R_drew)); exact HO186.out))) (below_size (by repeat (first | (with_reducible first | exact HB.out | apply below_alloc | apply pw_below_drewN | apply below_drew1 | refine below_set ?_ GE188.out) | exact HB.out))))
    have n12_ := Aside0.mk (blk_below (g := gb188) (o := .cells #[.int .i64 t176, .int .i64 t177, .slice Ao18 t178.length co18, .slice Ao19 t181.length co19, .slice Ao20 t184.length co20] 24 (0, 0)) (by (with_reducible repeat (first | refine blk_drewN ?_ _ | refine blk_drew ?_ | refine blk_alloc ?_ _)); exact BK188.out) hb)
    have n13_ := Aside0.mk (below_step (by repeat (first | (with_reducible first | exact HB.out | apply below_alloc | apply pw_below_drewN | apply below_drew1 | refine below_set ?_ GE188.out) | exact HB.out)) hb)
    clear HO158
    clear HO161
    clear HO164
    clear HO169
    clear HO172
    clear HO175
    clear HO180
    clear HO183
    clear HO186
    clear BK188
    clear HB
    have HO158 := n0_
    have HO161 := n1_
    have HO164 := n2_
    have HO169 := n3_
    have HO172 := n4_
    have HO175 := n5_
    have HO180 := n6_
    have HO183 := n7_
    have HO186 := n8_
    have HO193 := n9_
    have HO196 := n10_
    have HO199 := n11_
    have BK188 := n12_
    have HB := n13_
    clear n0_ n1_ n2_ n3_ n4_ n5_ n6_ n7_ n8_ n9_ n10_ n11_ n12_ n13_
    (try clear hb)
    (try clear hb2)
    (try clear hk)
    (try clear hi)
    (try clear ho0)
    (try clear ho1)
    (try clear ho2)
    obtain ⟨Ao24, co24, eo24⟩ := Kd.R_slice HO193.out
    (first | subst eo24 | (injection eo24 with f1_ f2_ f3_; have f4_ := f1_.symm; have f5_ := f3_.symm; clear f1_ f2_ f3_; subst f4_; subst f5_))
    obtain ⟨Ao25, co25, eo25⟩ := Kd.R_slice HO196.out
    (first | subst eo25 | (injection eo25 with f1_ f2_ f3_; have f4_ := f1_.symm; have f5_ := f3_.symm; clear f1_ f2_ f3_; subst f4_; subst f5_))
    obtain ⟨Ao26, co26, eo26⟩ := Kd.R_slice HO199.out
    (first | subst eo26 | (injection eo26 with f1_ f2_ f3_; have f4_ := f1_.symm; have f5_ := f3_.symm; clear f1_ f2_ f3_; subst f4_; subst f5_))
    refine hK.out _ _ ⟨(blk_cell BK188.out 0).trans rfl, (blk_cell BK188.out 1).trans rfl, (blk_cell BK188.out 2).trans rfl, (blk_cell BK188.out 3).trans rfl, (blk_cell BK188.out 4).trans rfl⟩ (fun hHeld => ?_)
    clear hK K
    refine norm_ (a' := ?_) ?_ ?_
    rotate_left
    · show Act.put _ (some 13) _ = _
      simp only [Act.put, List.setIfInBounds_toArray, List.set_cons_zero, List.set_cons_succ, i64_w, i32_w]
      rfl
    refine one_ (i := 5) (N := some 14) #[true, true, true, true, true, true, false, false] rfl rfl (one_of HT_.out (by kernel_rfl)) (by decide) (fun K hK => ?_)
    refine goes_ Try.func14 (by kernel_rfl) rfl #[.agg #[.int .i64 t176, .int .i64 t177, .slice Ao18 t178.length co18, .slice Ao19 t181.length co19, .slice Ao20 t184.length co20], .agg #[.int .i64 t189, .int .i64 t190, .slice Ao24 t191.length co24, .slice Ao25 t194.length co25, .slice Ao26 t197.length co26]] (by rfl) rfl rfl (by (try simp only [List.map_toArray, List.map_cons, List.map_nil]); first | done | rfl | (simp only [List.length_drop, List.length_take]; rfl)) ?_
    with_reducible refine (cutroomref07_Equal.calls t176 t177 _ _ t178 _ _ t181 _ _ t184 t189 t190 _ _ t191 _ _ t194 _ _ t197 t200 _ ?side1 ?side2 ?side3 ?side4 ?side5 ?side6 ?side7 ?side8 ?side9 ?side10 ?side11 ?side12 A6.out).mono ?_
    (case side1 => repeat (first | exact (Kd.R_reads' HO180.out).2.2 | (with_reducible refine Kd.C_alloc ?_ _) | (with_reducible refine Kd.C_drewN ?_ _) | (with_reducible refine Kd.C_drew ?_)))
    (case side2 => exact (Kd.R_reads' HO180.out).2.1)
    (case side3 => repeat (first | exact (Kd.R_reads' HO183.out).2.2 | (with_reducible refine Kd.C_alloc ?_ _) | (with_reducible refine Kd.C_drewN ?_ _) | (with_reducible refine Kd.C_drew ?_)))
    (case side4 => exact (Kd.R_reads' HO183.out).2.1)
    (case side5 => repeat (first | exact (Kd.R_reads' HO186.out).2.2 | (with_reducible refine Kd.C_alloc ?_ _) | (with_reducible refine Kd.C_drewN ?_ _) | (with_reducible refine Kd.C_drew ?_)))
    (case side6 => exact (Kd.R_reads' HO186.out).2.1)
    (case side7 => repeat (first | exact (Kd.R_reads' HO193.out).2.2 | (with_reducible refine Kd.C_alloc ?_ _) | (with_reducible refine Kd.C_drewN ?_ _) | (with_reducible refine Kd.C_drew ?_)))
    (case side8 => exact (Kd.R_reads' HO193.out).2.1)
    (case side9 => repeat (first | exact (Kd.R_reads' HO196.out).2.2 | (with_reducible refine Kd.C_alloc ?_ _) | (with_reducible refine Kd.C_drewN ?_ _) | (with_reducible refine Kd.C_drew ?_)))
    (case side10 => exact (Kd.R_reads' HO196.out).2.1)
    (case side11 => repeat (first | exact (Kd.R_reads' HO199.out).2.2 | (with_reducible refine Kd.C_alloc ?_ _) | (with_reducible refine Kd.C_drewN ?_ _) | (with_reducible refine Kd.C_drew ?_)))
    (case side12 => exact (Kd.R_reads' HO199.out).2.1)
    rintro e w27 ⟨rfl, hb⟩
    refine ⟨_, rfl, ?_⟩
    have n0_ := Aside0.mk (Kd.R_below (by (with_reducible repeat (first | apply Kd.R_alloc | apply Kd.R_drewN | apply Kd.R_drew)); exact HO158.out) hb)
    have n1_ := Aside0.mk (Kd.R_below (by (with_reducible repeat (first | apply Kd.R_alloc | apply Kd.R_drewN | apply Kd.R_drew)); exact HO161.out) hb)
    have n2_ := Aside0.mk (Kd.R_below (by (with_reducible repeat (first | apply Kd.R_alloc | apply Kd.R_drewN | apply Kd.R_drew)); exact HO164.out) hb)
    have n3_ := Aside0.mk (Kd.R_below (by (with_reducible repeat (first | apply Kd.R_alloc | apply Kd.R_drewN | apply Kd.R_drew)); exact HO169.out) hb)
    have n4_ := Aside0.mk (Kd.R_below (by (with_reducible repeat (first | apply Kd.R_alloc | apply Kd.R_drewN | apply Kd.R_drew)); exact HO172.out) hb)
    have n5_ := Aside0.mk (Kd.R_below (by (with_reducible repeat (first | apply Kd.R_alloc | apply Kd.R_drewN | apply Kd.R_drew)); exact HO175.out) hb)
    have n6_ := Aside0.mk (Kd.R_below (by (with_reducible repeat (first | apply Kd.R_alloc | apply Kd.R_drewN | apply Kd.R_drew)); exact HO180.out) hb)
    have n7_ := Aside0.mk (Kd.R_below (by (with_reducible repeat (first | apply Kd.R_alloc | apply Kd.R_drewN | apply Kd.R_drew)); exact HO183.out) hb)
    have n8_ := Aside0.mk (Kd.R_below (by (with_reducible repeat (first | apply Kd.R_alloc | apply Kd.R_drewN | apply Kd.R_drew)); exact HO186.out) hb)
    have n9_ := Aside0.mk (Kd.R_below (by (with_reducible repeat (first | apply Kd.R_alloc | apply Kd.R_drewN | apply Kd.R_drew)); exact HO193.out) hb)
    have n10_ := Aside0.mk (Kd.R_below (by (with_reducible repeat (first | apply Kd.R_alloc | apply Kd.R_drewN | apply Kd.R_drew)); exact HO196.out) hb)
    have n11_ := Aside0.mk (Kd.R_below (by (with_reducible repeat (first | apply Kd.R_alloc | apply Kd.R_drewN | apply Kd.R_drew)); exact HO199.out) hb)
    have n12_ := Aside0.mk (blk_below (g := gb188) (o := .cells #[.int .i64 t176, .int .i64 t177, .slice Ao18 t178.length co18, .slice Ao19 t181.length co19, .slice Ao20 t184.length co20] 24 (0, 0)) (by (with_reducible repeat (first | refine blk_drewN ?_ _ | refine blk_drew ?_ | refine blk_alloc ?_ _)); exact BK188.out) hb)
    have n13_ := Aside0.mk (below_step (by repeat (first | (with_reducible first | exact HB.out | apply below_alloc | apply pw_below_drewN | apply below_drew1 | refine below_set ?_ GE188.out) | exact HB.out)) hb)
    clear HO158
    clear HO161
    clear HO164
    clear HO169
    clear HO172
    clear HO175
    clear HO180
    clear HO183
    clear HO186
    clear HO193
    clear HO196
    clear HO199
    clear BK188
    clear HB
    have HO158 := n0_
    have HO161 := n1_
    have HO164 := n2_
    have HO169 := n3_
    have HO172 := n4_
    have HO175 := n5_
    have HO180 := n6_
    have HO183 := n7_
    have HO186 := n8_
    have HO193 := n9_
    have HO196 := n10_
    have HO199 := n11_
    have BK188 := n12_
    have HB := n13_
    clear n0_ n1_ n2_ n3_ n4_ n5_ n6_ n7_ n8_ n9_ n10_ n11_ n12_ n13_
    (try clear hb)
    (try clear hb2)
    (try clear hk)
    (try clear hi)
    refine hK.out _ _ ⟨(blk_cell BK188.out 0).trans rfl, (blk_cell BK188.out 1).trans rfl, (blk_cell BK188.out 2).trans rfl, (blk_cell BK188.out 3).trans rfl, (blk_cell BK188.out 4).trans rfl⟩ (fun hHeld => ?_)
    clear hK K
    refine norm_ (a' := ?_) ?_ ?_
    rotate_left
    · show Act.put _ (some 14) _ = _
      simp only [Act.put, List.setIfInBounds_toArray, List.set_cons_zero, List.set_cons_succ, i64_w, i32_w]
      rfl
    refine pure_ (i := 6) (N := some 15) (v := ?_) (a' := ?_) #[true, true, true, true, true, true, true, false] rfl rfl (any_of HT_.out (by kernel_rfl)) (fun _ _ _ h => h) (Or.inl ⟨by rfl, ?_⟩) ?_ ?_
    rotate_left
    · intro w'
      go_simp
      with_reducible rfl
    rotate_left
    · simp only [Act.put, List.setIfInBounds_toArray, List.set_cons_zero, List.set_cons_succ, i64_w, i32_w]
      rfl
    refine pure_ (i := 7) (N := some 0) (v := ?_) (a' := ?_) #[true, true, true, true, true, true, true, true] rfl rfl (any_of HT_.out (by kernel_rfl)) (fun _ _ _ h => h) (Or.inl ⟨by rfl, ?_⟩) ?_ ?_
    rotate_left
    · intro w'
      go_simp
      with_reducible rfl
    rotate_left
    · simp only [Act.put, List.setIfInBounds_toArray, List.set_cons_zero, List.set_cons_succ, i64_w, i32_w]
      rfl
    refine done_ (done_of HT_.out (by kernel_rfl)) ?_
    try go_wp2
    go_ret
    exact ⟨by first | rfl | (simp [errW_none, errW_some] <;> rfl) | (simp [*, errW_none, errW_some] <;> rfl), by repeat (first | (with_reducible first | exact HB.out | apply below_alloc | apply pw_below_drewN | apply below_drew1 | refine below_set ?_ GE188.out) | exact HB.out)⟩
  · rw [if_neg c4] at H
    have c4b0 : (t187 == 0) = false := beq_eq_false_iff_ne.mpr c4
    have c4b1 : (t187 != 0) = true := bne_iff_ne.mpr c4
    obtain rfl := Option.some.inj H
    go_enter Try.func13, Try.ntmps13
    try go_wp2_with (first | ((with_reducible refine gate_callee (f := 29) rfl ?_); refine goesL_ (some 4) rfl rfl Try.func29 (by kernel_rfl) rfl #[.int .i64 16, .int .i64 16, .int .u8 1, .int .u8 0, .int .u8 0] rfl (by (try simp only [List.map_toArray, List.map_cons, List.map_nil]); first | done | rfl | (simp only [List.length_drop, List.length_take]; rfl)) ?_; (with_reducible refine (cutroomref07_Flat.calls k 16 16 1 0 0 t154 t155 t156 t159 t162 _ A1.out).mono ?_); rintro e w28 ⟨v157, v160, v163, rfl, ho0, ho1, ho2, hb⟩; refine ⟨_, rfl, ?_⟩; have n0_ := Aside0.mk (Kd.R_lower ho0 (below_size (by repeat (first | (with_reducible first | exact HB.out | apply below_alloc | apply pw_below_drewN | apply below_drew1) | exact HB.out)))); have n1_ := Aside0.mk (Kd.R_lower ho1 (below_size (by repeat (first | (with_reducible first | exact HB.out | apply below_alloc | apply pw_below_drewN | apply below_drew1) | exact HB.out)))); have n2_ := Aside0.mk (Kd.R_lower ho2 (below_size (by repeat (first | (with_reducible first | exact HB.out | apply below_alloc | apply pw_below_drewN | apply below_drew1) | exact HB.out)))); have n3_ := Aside0.mk (below_step (by repeat (first | (with_reducible first | exact HB.out | apply below_alloc | apply pw_below_drewN | apply below_drew1) | exact HB.out)) hb); clear HB; have HO158 := n0_; have HO161 := n1_; have HO164 := n2_; have HB := n3_; clear n0_ n1_ n2_ n3_; (try clear hb); (try clear hb2); (try clear hk); (try clear hi); (try clear ho0); (try clear ho1); (try clear ho2)) | ((with_reducible refine gate_callee (f := 29) rfl ?_); refine goesL_ (some 5) rfl rfl Try.func29 (by kernel_rfl) rfl #[.int .i64 16, .int .i64 16, .int .u8 2, .int .u8 0, .int .u8 1] rfl (by (try simp only [List.map_toArray, List.map_cons, List.map_nil]); first | done | rfl | (simp only [List.length_drop, List.length_take]; rfl)) ?_; (with_reducible refine (cutroomref07_Flat.calls k 16 16 2 0 1 t165 t166 t167 t170 t173 _ A2.out).mono ?_); rintro e w29 ⟨v168, v171, v174, rfl, ho0, ho1, ho2, hb⟩; refine ⟨_, rfl, ?_⟩; have n0_ := Aside0.mk (Kd.R_mono (Kd.R_told (Kd.R_told (Kd.R_told (Kd.R_old (by (with_reducible repeat (first | apply Kd.R_alloc | apply Kd.R_drewN | apply Kd.R_drew)); exact HO158.out) hb) (Kd.R_base ho0)) (Kd.R_base ho1)) (Kd.R_base ho2)) (fun _ h_ => h_.1)); have n1_ := Aside0.mk (Kd.R_mono (Kd.R_told (Kd.R_told (Kd.R_told (Kd.R_old (by (with_reducible repeat (first | apply Kd.R_alloc | apply Kd.R_drewN | apply Kd.R_drew)); exact HO161.out) hb) (Kd.R_base ho0)) (Kd.R_base ho1)) (Kd.R_base ho2)) (fun _ h_ => h_.1)); have n2_ := Aside0.mk (Kd.R_mono (Kd.R_told (Kd.R_told (Kd.R_told (Kd.R_old (by (with_reducible repeat (first | apply Kd.R_alloc | apply Kd.R_drewN | apply Kd.R_drew)); exact HO164.out) hb) (Kd.R_base ho0)) (Kd.R_base ho1)) (Kd.R_base ho2)) (fun _ h_ => h_.1)); have n3_ := Aside0.mk (Kd.R_lower (Kd.R_new' (Kd.R_new' (Kd.R_new' ho0 (Kd.R_lt (by (with_reducible repeat (first | apply Kd.R_alloc | apply Kd.R_drewN | apply Kd.R_drew)); exact HO158.out))) (Kd.R_lt (by (with_reducible repeat (first | apply Kd.R_alloc | apply Kd.R_drewN | apply Kd.R_drew)); exact HO161.out))) (Kd.R_lt (by (with_reducible repeat (first | apply Kd.R_alloc | apply Kd.R_drewN | apply Kd.R_drew)); exact HO164.out))) (below_size (by repeat (first | (with_reducible first | exact HB.out | apply below_alloc | apply pw_below_drewN | apply below_drew1) | exact HB.out)))); have n4_ := Aside0.mk (Kd.R_lower (Kd.R_new' (Kd.R_new' (Kd.R_new' ho1 (Kd.R_lt (by (with_reducible repeat (first | apply Kd.R_alloc | apply Kd.R_drewN | apply Kd.R_drew)); exact HO158.out))) (Kd.R_lt (by (with_reducible repeat (first | apply Kd.R_alloc | apply Kd.R_drewN | apply Kd.R_drew)); exact HO161.out))) (Kd.R_lt (by (with_reducible repeat (first | apply Kd.R_alloc | apply Kd.R_drewN | apply Kd.R_drew)); exact HO164.out))) (below_size (by repeat (first | (with_reducible first | exact HB.out | apply below_alloc | apply pw_below_drewN | apply below_drew1) | exact HB.out)))); have n5_ := Aside0.mk (Kd.R_lower (Kd.R_new' (Kd.R_new' (Kd.R_new' ho2 (Kd.R_lt (by (with_reducible repeat (first | apply Kd.R_alloc | apply Kd.R_drewN | apply Kd.R_drew)); exact HO158.out))) (Kd.R_lt (by (with_reducible repeat (first | apply Kd.R_alloc | apply Kd.R_drewN | apply Kd.R_drew)); exact HO161.out))) (Kd.R_lt (by (with_reducible repeat (first | apply Kd.R_alloc | apply Kd.R_drewN | apply Kd.R_drew)); exact HO164.out))) (below_size (by repeat (first | (with_reducible first | exact HB.out | apply below_alloc | apply pw_below_drewN | apply below_drew1) | exact HB.out)))); have n6_ := Aside0.mk (below_step (by repeat (first | (with_reducible first | exact HB.out | apply below_alloc | apply pw_below_drewN | apply below_drew1) | exact HB.out)) hb); clear HO158; clear HO161; clear HO164; clear HB; have HO158 := n0_; have HO161 := n1_; have HO164 := n2_; have HO169 := n3_; have HO172 := n4_; have HO175 := n5_; have HB := n6_; clear n0_ n1_ n2_ n3_ n4_ n5_ n6_; (try clear hb); (try clear hb2); (try clear hk); (try clear hi); (try clear ho0); (try clear ho1); (try clear ho2); obtain ⟨Ao30, co30, eo30⟩ := Kd.R_slice HO158.out; subst eo30; obtain ⟨Ao31, co31, eo31⟩ := Kd.R_slice HO161.out; subst eo31; obtain ⟨Ao32, co32, eo32⟩ := Kd.R_slice HO164.out; subst eo32; obtain ⟨Ao33, co33, eo33⟩ := Kd.R_slice HO169.out; subst eo33; obtain ⟨Ao34, co34, eo34⟩ := Kd.R_slice HO172.out; subst eo34; obtain ⟨Ao35, co35, eo35⟩ := Kd.R_slice HO175.out; subst eo35) | ((with_reducible refine gate_callee (f := 11) rfl ?_); refine goesL_ (some 6) rfl rfl Try.func11 (by kernel_rfl) rfl #[.agg #[.int .i64 t154, .int .i64 t155, .slice Ao30 t156.length co30, .slice Ao31 t159.length co31, .slice Ao32 t162.length co32], .agg #[.int .i64 t165, .int .i64 t166, .slice Ao33 t167.length co33, .slice Ao34 t170.length co34, .slice Ao35 t173.length co35]] rfl (by (try simp only [List.map_toArray, List.map_cons, List.map_nil]); first | done | rfl | (simp only [List.length_drop, List.length_take]; rfl)) ?_; (with_reducible refine (motion_Average.calls k t154 t155 _ _ t156 _ _ t159 _ _ t162 t165 t166 _ _ t167 _ _ t170 _ _ t173 t176 t177 t178 t181 t184 t187 _ ?side1 ?side2 ?side3 ?side4 ?side5 ?side6 ?side7 ?side8 ?side9 ?side10 ?side11 ?side12 A3.out).mono ?_); (case side1 => repeat (first | exact (Kd.R_reads' HO158.out).2.2 | (with_reducible refine Kd.C_alloc ?_ _) | (with_reducible refine Kd.C_drewN ?_ _) | (with_reducible refine Kd.C_drew ?_))); (case side2 => exact (Kd.R_reads' HO158.out).2.1); (case side3 => repeat (first | exact (Kd.R_reads' HO161.out).2.2 | (with_reducible refine Kd.C_alloc ?_ _) | (with_reducible refine Kd.C_drewN ?_ _) | (with_reducible refine Kd.C_drew ?_))); (case side4 => exact (Kd.R_reads' HO161.out).2.1); (case side5 => repeat (first | exact (Kd.R_reads' HO164.out).2.2 | (with_reducible refine Kd.C_alloc ?_ _) | (with_reducible refine Kd.C_drewN ?_ _) | (with_reducible refine Kd.C_drew ?_))); (case side6 => exact (Kd.R_reads' HO164.out).2.1); (case side7 => repeat (first | exact (Kd.R_reads' HO169.out).2.2 | (with_reducible refine Kd.C_alloc ?_ _) | (with_reducible refine Kd.C_drewN ?_ _) | (with_reducible refine Kd.C_drew ?_))); (case side8 => exact (Kd.R_reads' HO169.out).2.1); (case side9 => repeat (first | exact (Kd.R_reads' HO172.out).2.2 | (with_reducible refine Kd.C_alloc ?_ _) | (with_reducible refine Kd.C_drewN ?_ _) | (with_reducible refine Kd.C_drew ?_))); (case side10 => exact (Kd.R_reads' HO172.out).2.1); (case side11 => repeat (first | exact (Kd.R_reads' HO175.out).2.2 | (with_reducible refine Kd.C_alloc ?_ _) | (with_reducible refine Kd.C_drewN ?_ _) | (with_reducible refine Kd.C_drew ?_))); (case side12 => exact (Kd.R_reads' HO175.out).2.1); rintro e w36 ⟨v179, v182, v185, rfl, ho0, ho1, ho2, hb⟩; refine ⟨_, rfl, ?_⟩; have n0_ := Aside0.mk (Kd.R_mono (Kd.R_told (Kd.R_told (Kd.R_told (Kd.R_old (by (with_reducible repeat (first | apply Kd.R_alloc | apply Kd.R_drewN | apply Kd.R_drew)); exact HO158.out) hb) (Kd.R_base ho0)) (Kd.R_base ho1)) (Kd.R_base ho2)) (fun _ h_ => h_.1)); have n1_ := Aside0.mk (Kd.R_mono (Kd.R_told (Kd.R_told (Kd.R_told (Kd.R_old (by (with_reducible repeat (first | apply Kd.R_alloc | apply Kd.R_drewN | apply Kd.R_drew)); exact HO161.out) hb) (Kd.R_base ho0)) (Kd.R_base ho1)) (Kd.R_base ho2)) (fun _ h_ => h_.1)); have n2_ := Aside0.mk (Kd.R_mono (Kd.R_told (Kd.R_told (Kd.R_told (Kd.R_old (by (with_reducible repeat (first | apply Kd.R_alloc | apply Kd.R_drewN | apply Kd.R_drew)); exact HO164.out) hb) (Kd.R_base ho0)) (Kd.R_base ho1)) (Kd.R_base ho2)) (fun _ h_ => h_.1)); have n3_ := Aside0.mk (Kd.R_mono (Kd.R_told (Kd.R_told (Kd.R_told (Kd.R_old (by (with_reducible repeat (first | apply Kd.R_alloc | apply Kd.R_drewN | apply Kd.R_drew)); exact HO169.out) hb) (Kd.R_base ho0)) (Kd.R_base ho1)) (Kd.R_base ho2)) (fun _ h_ => h_.1)); have n4_ := Aside0.mk (Kd.R_mono (Kd.R_told (Kd.R_told (Kd.R_told (Kd.R_old (by (with_reducible repeat (first | apply Kd.R_alloc | apply Kd.R_drewN | apply Kd.R_drew)); exact HO172.out) hb) (Kd.R_base ho0)) (Kd.R_base ho1)) (Kd.R_base ho2)) (fun _ h_ => h_.1)); have n5_ := Aside0.mk (Kd.R_mono (Kd.R_told (Kd.R_told (Kd.R_told (Kd.R_old (by (with_reducible repeat (first | apply Kd.R_alloc | apply Kd.R_drewN | apply Kd.R_drew)); exact HO175.out) hb) (Kd.R_base ho0)) (Kd.R_base ho1)) (Kd.R_base ho2)) (fun _ h_ => h_.1)); have n6_ := Aside0.mk (Kd.R_lower (Kd.R_new' (Kd.R_new' (Kd.R_new' (Kd.R_new' (Kd.R_new' (Kd.R_new' ho0 (Kd.R_lt (by (with_reducible repeat (first | apply Kd.R_alloc | apply Kd.R_drewN | apply Kd.R_drew)); exact HO158.out))) (Kd.R_lt (by (with_reducible repeat (first | apply Kd.R_alloc | apply Kd.R_drewN | apply Kd.R_drew)); exact HO161.out))) (Kd.R_lt (by (with_reducible repeat (first | apply Kd.R_alloc | apply Kd.R_drewN | apply Kd.R_drew)); exact HO164.out))) (Kd.R_lt (by (with_reducible repeat (first | apply Kd.R_alloc | apply Kd.R_drewN | apply Kd.R_drew)); exact HO169.out))) (Kd.R_lt (by (with_reducible repeat (first | apply Kd.R_alloc | apply Kd.R_drewN | apply Kd.R_drew)); exact HO172.out))) (Kd.R_lt (by (with_reducible repeat (first | apply Kd.R_alloc | apply Kd.R_drewN | apply Kd.R_drew)); exact HO175.out))) (below_size (by repeat (first | (with_reducible first | exact HB.out | apply below_alloc | apply pw_below_drewN | apply below_drew1) | exact HB.out)))); have n7_ := Aside0.mk (Kd.R_lower (Kd.R_new' (Kd.R_new' (Kd.R_new' (Kd.R_new' (Kd.R_new' (Kd.R_new' ho1 (Kd.R_lt (by (with_reducible repeat (first | apply Kd.R_alloc | apply Kd.R_drewN | apply Kd.R_drew)); exact HO158.out))) (Kd.R_lt (by (with_reducible repeat (first | apply Kd.R_alloc | apply Kd.R_drewN | apply Kd.R_drew)); exact HO161.out))) (Kd.R_lt (by (with_reducible repeat (first | apply Kd.R_alloc | apply Kd.R_drewN | apply Kd.R_drew)); exact HO164.out))) (Kd.R_lt (by (with_reducible repeat (first | apply Kd.R_alloc | apply Kd.R_drewN | apply Kd.R_drew)); exact HO169.out))) (Kd.R_lt (by (with_reducible repeat (first | apply Kd.R_alloc | apply Kd.R_drewN | apply Kd.R_drew)); exact HO172.out))) (Kd.R_lt (by (with_reducible repeat (first | apply Kd.R_alloc | apply Kd.R_drewN | apply Kd.R_drew)); exact HO175.out))) (below_size (by repeat (first | (with_reducible first | exact HB.out | apply below_alloc | apply pw_below_drewN | apply below_drew1) | exact HB.out)))); have n8_ := Aside0.mk (Kd.R_lower (Kd.R_new' (Kd.R_new' (Kd.R_new' (Kd.R_new' (Kd.R_new' (Kd.R_new' ho2 (Kd.R_lt (by (with_reducible repeat (first | apply Kd.R_alloc | apply Kd.R_drewN | apply Kd.R_drew)); exact HO158.out))) (Kd.R_lt (by (with_reducible repeat (first | apply Kd.R_alloc | apply Kd.R_drewN | apply Kd.R_drew)); exact HO161.out))) (Kd.R_lt (by (with_reducible repeat (first | apply Kd.R_alloc | apply Kd.R_drewN | apply Kd.R_drew)); exact HO164.out))) (Kd.R_lt (by (with_reducible repeat (first | apply Kd.R_alloc | apply Kd.R_drewN | apply Kd.R_drew)); exact HO169.out))) (Kd.R_lt (by (with_reducible repeat (first | apply Kd.R_alloc | apply Kd.R_drewN | apply Kd.R_drew)); exact HO172.out))) (Kd.R_lt (by (with_reducible repeat (first | apply Kd.R_alloc | apply Kd.R_drewN | apply Kd.R_drew)); exact HO175.out))) (below_size (by repeat (first | (with_reducible first | exact HB.out | apply below_alloc | apply pw_below_drewN | apply below_drew1) | exact HB.out)))); have n9_ := Aside0.mk (below_step (by repeat (first | (with_reducible first | exact HB.out | apply below_alloc | apply pw_below_drewN | apply below_drew1) | exact HB.out)) hb); clear HO158; clear HO161; clear HO164; clear HO169; clear HO172; clear HO175; clear HB; have HO158 := n0_; have HO161 := n1_; have HO164 := n2_; have HO169 := n3_; have HO172 := n4_; have HO175 := n5_; have HO180 := n6_; have HO183 := n7_; have HO186 := n8_; have HB := n9_; clear n0_ n1_ n2_ n3_ n4_ n5_ n6_ n7_ n8_ n9_; (try clear hb); (try clear hb2); (try clear hk); (try clear hi); (try clear ho0); (try clear ho1); (try clear ho2)) | ((with_reducible refine gate_dst (N := 1) rfl ?_); refine box_event ?hg (N := 1) ?hd (cs := #[.int .i64 0, .int .i64 0, .slice none 0 0, .slice none 0 0, .slice none 0 0]) (t := 24) ?hr ?_; (case hd => rfl); (case hg => rfl); (case hr => first | (go_simp; done) | (go_simp; rfl)); intro gb188 hg w37 hbox hb; have n0_ := Aside0.mk (Kd.R_below (by (with_reducible repeat (first | apply Kd.R_alloc | apply Kd.R_drewN | apply Kd.R_drew)); exact HO158.out) hb); have n1_ := Aside0.mk (Kd.R_below (by (with_reducible repeat (first | apply Kd.R_alloc | apply Kd.R_drewN | apply Kd.R_drew)); exact HO161.out) hb); have n2_ := Aside0.mk (Kd.R_below (by (with_reducible repeat (first | apply Kd.R_alloc | apply Kd.R_drewN | apply Kd.R_drew)); exact HO164.out) hb); have n3_ := Aside0.mk (Kd.R_below (by (with_reducible repeat (first | apply Kd.R_alloc | apply Kd.R_drewN | apply Kd.R_drew)); exact HO169.out) hb); have n4_ := Aside0.mk (Kd.R_below (by (with_reducible repeat (first | apply Kd.R_alloc | apply Kd.R_drewN | apply Kd.R_drew)); exact HO172.out) hb); have n5_ := Aside0.mk (Kd.R_below (by (with_reducible repeat (first | apply Kd.R_alloc | apply Kd.R_drewN | apply Kd.R_drew)); exact HO175.out) hb); have n6_ := Aside0.mk (Kd.R_below (by (with_reducible repeat (first | apply Kd.R_alloc | apply Kd.R_drewN | apply Kd.R_drew)); exact HO180.out) hb); have n7_ := Aside0.mk (Kd.R_below (by (with_reducible repeat (first | apply Kd.R_alloc | apply Kd.R_drewN | apply Kd.R_drew)); exact HO183.out) hb); have n8_ := Aside0.mk (Kd.R_below (by (with_reducible repeat (first | apply Kd.R_alloc | apply Kd.R_drewN | apply Kd.R_drew)); exact HO186.out) hb); have n9_ := Aside0.mk (below_step (by repeat (first | (with_reducible first | exact HB.out | apply below_alloc | apply pw_below_drewN | apply below_drew1) | exact HB.out)) hb); have n10_ := Aside0.mk (hbox); have n11_ := Aside0.mk ((by rw [hg]; exact (below_size (by repeat (first | (with_reducible first | exact HB.out | apply below_alloc | apply pw_below_drewN | apply below_drew1) | exact HB.out))) : w.heap.size ≤ gb188)); have n12_ := Aside0.mk ((by rw [hg]; exact (below_size (by repeat (first | (with_reducible first | exact HB.out | apply below_alloc | apply pw_below_drewN | apply below_drew1) | exact HB.out))) : w.heap.size ≤ gb188)); clear HO158; clear HO161; clear HO164; clear HO169; clear HO172; clear HO175; clear HO180; clear HO183; clear HO186; clear HB; have HO158 := n0_; have HO161 := n1_; have HO164 := n2_; have HO169 := n3_; have HO172 := n4_; have HO175 := n5_; have HO180 := n6_; have HO183 := n7_; have HO186 := n8_; have HB := n9_; have BK188 := n10_; have GW188 := n11_; have GE188 := n12_; clear n0_ n1_ n2_ n3_ n4_ n5_ n6_ n7_ n8_ n9_ n10_ n11_ n12_; clear hb hbox hg; have hcz38_0 : w37.cell? ⟨gb188, 0, none⟩ = some (.int .i64 0) := (blk_cell BK188.out 0).trans rfl; have hcz38_1 : w37.cell? ⟨gb188, 1, none⟩ = some (.int .i64 0) := (blk_cell BK188.out 1).trans rfl; have hcz38_2 : w37.cell? ⟨gb188, 2, none⟩ = some (.slice none 0 0) := (blk_cell BK188.out 2).trans rfl; have hcz38_3 : w37.cell? ⟨gb188, 3, none⟩ = some (.slice none 0 0) := (blk_cell BK188.out 3).trans rfl; have hcz38_4 : w37.cell? ⟨gb188, 4, none⟩ = some (.slice none 0 0) := (blk_cell BK188.out 4).trans rfl; have hfz38_0 := blk_frozen BK188.out 0; have hfz38_1 := blk_frozen BK188.out 1; have hfz38_2 := blk_frozen BK188.out 2; have hfz38_3 := blk_frozen BK188.out 3; have hfz38_4 := blk_frozen BK188.out 4; obtain ⟨Ao39, co39, eo39⟩ := Kd.R_slice HO180.out; subst eo39; obtain ⟨Ao40, co40, eo40⟩ := Kd.R_slice HO183.out; subst eo40; obtain ⟨Ao41, co41, eo41⟩ := Kd.R_slice HO186.out; subst eo41))
    have n0_ : Aside0 (Kd.R (Kd.int .u8) 5 (((((w37.setCell ⟨gb188, 0, none⟩ (.int .i64 t176)).setCell ⟨gb188, 1, none⟩ (.int .i64 t177)).setCell ⟨gb188, 2, none⟩ (.slice Ao39 t178.length co39)).setCell ⟨gb188, 3, none⟩ (.slice Ao40 t181.length co40)).setCell ⟨gb188, 4, none⟩ (.slice Ao41 t184.length co41)) w.heap.size (fun k_ => some k_ ≠ (.slice Ao31 t159.length co31 : Value).ownBlock ∧ some k_ ≠ (.slice Ao32 t162.length co32 : Value).ownBlock ∧ some k_ ≠ (.slice Ao33 t167.length co33 : Value).ownBlock ∧ some k_ ≠ (.slice Ao34 t170.length co34 : Value).ownBlock ∧ some k_ ≠ (.slice Ao35 t173.length co35 : Value).ownBlock ∧ some k_ ≠ (.slice Ao39 t178.length co39 : Value).ownBlock ∧ some k_ ≠ (.slice Ao40 t181.length co40 : Value).ownBlock ∧ some k_ ≠ (.slice Ao41 t184.length co41 : Value).ownBlock) (.slice Ao30 t156.length co30) t156) := ⟨by (with_reducible repeat (first | apply Kd.R_alloc | apply Kd.R_drewN | apply Kd.R_drew)); exact Kd.R_mono (Kd.R_far (p := ⟨gb188, 4, none⟩) (Kd.R_far (p := ⟨gb188, 3, none⟩) (Kd.R_far (p := ⟨gb188, 2, none⟩) (Kd.R_far (p := ⟨gb188, 1, none⟩) (Kd.R_far (p := ⟨gb188, 0, none⟩) (Kd.R_types HO158.out BK188.out (by decide)) (fun _ hk => hk.2) (.int .i64 t176)) (fun _ hk => hk.2) (.int .i64 t177)) (fun _ hk => hk.2) (.slice Ao39 t178.length co39)) (fun _ hk => hk.2) (.slice Ao40 t181.length co40)) (fun _ hk => hk.2) (.slice Ao41 t184.length co41)) (fun _ hk => ⟨hk.1.1.1.1.1.1.1.1, ⟨hk.1.1.1.1.1.1.1.2, ⟨hk.1.1.1.1.1.1.2, ⟨hk.1.1.1.1.1.2, ⟨hk.1.1.1.1.2, ⟨hk.1.1.1.2, ⟨hk.1.1.2, hk.1.2⟩⟩⟩⟩⟩⟩⟩)⟩
    have n1_ : Aside0 (Kd.R (Kd.int .u8) 5 (((((w37.setCell ⟨gb188, 0, none⟩ (.int .i64 t176)).setCell ⟨gb188, 1, none⟩ (.int .i64 t177)).setCell ⟨gb188, 2, none⟩ (.slice Ao39 t178.length co39)).setCell ⟨gb188, 3, none⟩ (.slice Ao40 t181.length co40)).setCell ⟨gb188, 4, none⟩ (.slice Ao41 t184.length co41)) w.heap.size (fun k_ => some k_ ≠ (.slice Ao30 t156.length co30 : Value).ownBlock ∧ some k_ ≠ (.slice Ao32 t162.length co32 : Value).ownBlock ∧ some k_ ≠ (.slice Ao33 t167.length co33 : Value).ownBlock ∧ some k_ ≠ (.slice Ao34 t170.length co34 : Value).ownBlock ∧ some k_ ≠ (.slice Ao35 t173.length co35 : Value).ownBlock ∧ some k_ ≠ (.slice Ao39 t178.length co39 : Value).ownBlock ∧ some k_ ≠ (.slice Ao40 t181.length co40 : Value).ownBlock ∧ some k_ ≠ (.slice Ao41 t184.length co41 : Value).ownBlock) (.slice Ao31 t159.length co31) t159) := ⟨by (with_reducible repeat (first | apply Kd.R_alloc | apply Kd.R_drewN | apply Kd.R_drew)); exact Kd.R_mono (Kd.R_far (p := ⟨gb188, 4, none⟩) (Kd.R_far (p := ⟨gb188, 3, none⟩) (Kd.R_far (p := ⟨gb188, 2, none⟩) (Kd.R_far (p := ⟨gb188, 1, none⟩) (Kd.R_far (p := ⟨gb188, 0, none⟩) (Kd.R_types HO161.out BK188.out (by decide)) (fun _ hk => hk.2) (.int .i64 t176)) (fun _ hk => hk.2) (.int .i64 t177)) (fun _ hk => hk.2) (.slice Ao39 t178.length co39)) (fun _ hk => hk.2) (.slice Ao40 t181.length co40)) (fun _ hk => hk.2) (.slice Ao41 t184.length co41)) (fun _ hk => ⟨hk.1.1.1.1.1.1.1.1, ⟨hk.1.1.1.1.1.1.1.2, ⟨hk.1.1.1.1.1.1.2, ⟨hk.1.1.1.1.1.2, ⟨hk.1.1.1.1.2, ⟨hk.1.1.1.2, ⟨hk.1.1.2, hk.1.2⟩⟩⟩⟩⟩⟩⟩)⟩
    have n2_ : Aside0 (Kd.R (Kd.int .u8) 5 (((((w37.setCell ⟨gb188, 0, none⟩ (.int .i64 t176)).setCell ⟨gb188, 1, none⟩ (.int .i64 t177)).setCell ⟨gb188, 2, none⟩ (.slice Ao39 t178.length co39)).setCell ⟨gb188, 3, none⟩ (.slice Ao40 t181.length co40)).setCell ⟨gb188, 4, none⟩ (.slice Ao41 t184.length co41)) w.heap.size (fun k_ => some k_ ≠ (.slice Ao30 t156.length co30 : Value).ownBlock ∧ some k_ ≠ (.slice Ao31 t159.length co31 : Value).ownBlock ∧ some k_ ≠ (.slice Ao33 t167.length co33 : Value).ownBlock ∧ some k_ ≠ (.slice Ao34 t170.length co34 : Value).ownBlock ∧ some k_ ≠ (.slice Ao35 t173.length co35 : Value).ownBlock ∧ some k_ ≠ (.slice Ao39 t178.length co39 : Value).ownBlock ∧ some k_ ≠ (.slice Ao40 t181.length co40 : Value).ownBlock ∧ some k_ ≠ (.slice Ao41 t184.length co41 : Value).ownBlock) (.slice Ao32 t162.length co32) t162) := ⟨by (with_reducible repeat (first | apply Kd.R_alloc | apply Kd.R_drewN | apply Kd.R_drew)); exact Kd.R_mono (Kd.R_far (p := ⟨gb188, 4, none⟩) (Kd.R_far (p := ⟨gb188, 3, none⟩) (Kd.R_far (p := ⟨gb188, 2, none⟩) (Kd.R_far (p := ⟨gb188, 1, none⟩) (Kd.R_far (p := ⟨gb188, 0, none⟩) (Kd.R_types HO164.out BK188.out (by decide)) (fun _ hk => hk.2) (.int .i64 t176)) (fun _ hk => hk.2) (.int .i64 t177)) (fun _ hk => hk.2) (.slice Ao39 t178.length co39)) (fun _ hk => hk.2) (.slice Ao40 t181.length co40)) (fun _ hk => hk.2) (.slice Ao41 t184.length co41)) (fun _ hk => ⟨hk.1.1.1.1.1.1.1.1, ⟨hk.1.1.1.1.1.1.1.2, ⟨hk.1.1.1.1.1.1.2, ⟨hk.1.1.1.1.1.2, ⟨hk.1.1.1.1.2, ⟨hk.1.1.1.2, ⟨hk.1.1.2, hk.1.2⟩⟩⟩⟩⟩⟩⟩)⟩
    have n3_ : Aside0 (Kd.R (Kd.int .u8) 5 (((((w37.setCell ⟨gb188, 0, none⟩ (.int .i64 t176)).setCell ⟨gb188, 1, none⟩ (.int .i64 t177)).setCell ⟨gb188, 2, none⟩ (.slice Ao39 t178.length co39)).setCell ⟨gb188, 3, none⟩ (.slice Ao40 t181.length co40)).setCell ⟨gb188, 4, none⟩ (.slice Ao41 t184.length co41)) w.heap.size (fun k_ => some k_ ≠ (.slice Ao30 t156.length co30 : Value).ownBlock ∧ some k_ ≠ (.slice Ao31 t159.length co31 : Value).ownBlock ∧ some k_ ≠ (.slice Ao32 t162.length co32 : Value).ownBlock ∧ some k_ ≠ (.slice Ao34 t170.length co34 : Value).ownBlock ∧ some k_ ≠ (.slice Ao35 t173.length co35 : Value).ownBlock ∧ some k_ ≠ (.slice Ao39 t178.length co39 : Value).ownBlock ∧ some k_ ≠ (.slice Ao40 t181.length co40 : Value).ownBlock ∧ some k_ ≠ (.slice Ao41 t184.length co41 : Value).ownBlock) (.slice Ao33 t167.length co33) t167) := ⟨by (with_reducible repeat (first | apply Kd.R_alloc | apply Kd.R_drewN | apply Kd.R_drew)); exact Kd.R_mono (Kd.R_far (p := ⟨gb188, 4, none⟩) (Kd.R_far (p := ⟨gb188, 3, none⟩) (Kd.R_far (p := ⟨gb188, 2, none⟩) (Kd.R_far (p := ⟨gb188, 1, none⟩) (Kd.R_far (p := ⟨gb188, 0, none⟩) (Kd.R_types HO169.out BK188.out (by decide)) (fun _ hk => hk.2) (.int .i64 t176)) (fun _ hk => hk.2) (.int .i64 t177)) (fun _ hk => hk.2) (.slice Ao39 t178.length co39)) (fun _ hk => hk.2) (.slice Ao40 t181.length co40)) (fun _ hk => hk.2) (.slice Ao41 t184.length co41)) (fun _ hk => ⟨hk.1.1.1.1.1.1.2, ⟨hk.1.1.1.1.1.2, ⟨hk.1.1.1.1.2, ⟨hk.1.1.1.1.1.1.1.1, ⟨hk.1.1.1.1.1.1.1.2, ⟨hk.1.1.1.2, ⟨hk.1.1.2, hk.1.2⟩⟩⟩⟩⟩⟩⟩)⟩
    have n4_ : Aside0 (Kd.R (Kd.int .u8) 5 (((((w37.setCell ⟨gb188, 0, none⟩ (.int .i64 t176)).setCell ⟨gb188, 1, none⟩ (.int .i64 t177)).setCell ⟨gb188, 2, none⟩ (.slice Ao39 t178.length co39)).setCell ⟨gb188, 3, none⟩ (.slice Ao40 t181.length co40)).setCell ⟨gb188, 4, none⟩ (.slice Ao41 t184.length co41)) w.heap.size (fun k_ => some k_ ≠ (.slice Ao30 t156.length co30 : Value).ownBlock ∧ some k_ ≠ (.slice Ao31 t159.length co31 : Value).ownBlock ∧ some k_ ≠ (.slice Ao32 t162.length co32 : Value).ownBlock ∧ some k_ ≠ (.slice Ao33 t167.length co33 : Value).ownBlock ∧ some k_ ≠ (.slice Ao35 t173.length co35 : Value).ownBlock ∧ some k_ ≠ (.slice Ao39 t178.length co39 : Value).ownBlock ∧ some k_ ≠ (.slice Ao40 t181.length co40 : Value).ownBlock ∧ some k_ ≠ (.slice Ao41 t184.length co41 : Value).ownBlock) (.slice Ao34 t170.length co34) t170) := ⟨by (with_reducible repeat (first | apply Kd.R_alloc | apply Kd.R_drewN | apply Kd.R_drew)); exact Kd.R_mono (Kd.R_far (p := ⟨gb188, 4, none⟩) (Kd.R_far (p := ⟨gb188, 3, none⟩) (Kd.R_far (p := ⟨gb188, 2, none⟩) (Kd.R_far (p := ⟨gb188, 1, none⟩) (Kd.R_far (p := ⟨gb188, 0, none⟩) (Kd.R_types HO172.out BK188.out (by decide)) (fun _ hk => hk.2) (.int .i64 t176)) (fun _ hk => hk.2) (.int .i64 t177)) (fun _ hk => hk.2) (.slice Ao39 t178.length co39)) (fun _ hk => hk.2) (.slice Ao40 t181.length co40)) (fun _ hk => hk.2) (.slice Ao41 t184.length co41)) (fun _ hk => ⟨hk.1.1.1.1.1.1.2, ⟨hk.1.1.1.1.1.2, ⟨hk.1.1.1.1.2, ⟨hk.1.1.1.1.1.1.1.1, ⟨hk.1.1.1.1.1.1.1.2, ⟨hk.1.1.1.2, ⟨hk.1.1.2, hk.1.2⟩⟩⟩⟩⟩⟩⟩)⟩
    have n5_ : Aside0 (Kd.R (Kd.int .u8) 5 (((((w37.setCell ⟨gb188, 0, none⟩ (.int .i64 t176)).setCell ⟨gb188, 1, none⟩ (.int .i64 t177)).setCell ⟨gb188, 2, none⟩ (.slice Ao39 t178.length co39)).setCell ⟨gb188, 3, none⟩ (.slice Ao40 t181.length co40)).setCell ⟨gb188, 4, none⟩ (.slice Ao41 t184.length co41)) w.heap.size (fun k_ => some k_ ≠ (.slice Ao30 t156.length co30 : Value).ownBlock ∧ some k_ ≠ (.slice Ao31 t159.length co31 : Value).ownBlock ∧ some k_ ≠ (.slice Ao32 t162.length co32 : Value).ownBlock ∧ some k_ ≠ (.slice Ao33 t167.length co33 : Value).ownBlock ∧ some k_ ≠ (.slice Ao34 t170.length co34 : Value).ownBlock ∧ some k_ ≠ (.slice Ao39 t178.length co39 : Value).ownBlock ∧ some k_ ≠ (.slice Ao40 t181.length co40 : Value).ownBlock ∧ some k_ ≠ (.slice Ao41 t184.length co41 : Value).ownBlock) (.slice Ao35 t173.length co35) t173) := ⟨by (with_reducible repeat (first | apply Kd.R_alloc | apply Kd.R_drewN | apply Kd.R_drew)); exact Kd.R_mono (Kd.R_far (p := ⟨gb188, 4, none⟩) (Kd.R_far (p := ⟨gb188, 3, none⟩) (Kd.R_far (p := ⟨gb188, 2, none⟩) (Kd.R_far (p := ⟨gb188, 1, none⟩) (Kd.R_far (p := ⟨gb188, 0, none⟩) (Kd.R_types HO175.out BK188.out (by decide)) (fun _ hk => hk.2) (.int .i64 t176)) (fun _ hk => hk.2) (.int .i64 t177)) (fun _ hk => hk.2) (.slice Ao39 t178.length co39)) (fun _ hk => hk.2) (.slice Ao40 t181.length co40)) (fun _ hk => hk.2) (.slice Ao41 t184.length co41)) (fun _ hk => ⟨hk.1.1.1.1.1.1.2, ⟨hk.1.1.1.1.1.2, ⟨hk.1.1.1.1.2, ⟨hk.1.1.1.1.1.1.1.1, ⟨hk.1.1.1.1.1.1.1.2, ⟨hk.1.1.1.2, ⟨hk.1.1.2, hk.1.2⟩⟩⟩⟩⟩⟩⟩)⟩
    have n6_ : Aside0 (Kd.R (Kd.int .u8) 5 (((((w37.setCell ⟨gb188, 0, none⟩ (.int .i64 t176)).setCell ⟨gb188, 1, none⟩ (.int .i64 t177)).setCell ⟨gb188, 2, none⟩ (.slice Ao39 t178.length co39)).setCell ⟨gb188, 3, none⟩ (.slice Ao40 t181.length co40)).setCell ⟨gb188, 4, none⟩ (.slice Ao41 t184.length co41)) w.heap.size (fun k_ => some k_ ≠ (.slice Ao30 t156.length co30 : Value).ownBlock ∧ some k_ ≠ (.slice Ao31 t159.length co31 : Value).ownBlock ∧ some k_ ≠ (.slice Ao32 t162.length co32 : Value).ownBlock ∧ some k_ ≠ (.slice Ao33 t167.length co33 : Value).ownBlock ∧ some k_ ≠ (.slice Ao34 t170.length co34 : Value).ownBlock ∧ some k_ ≠ (.slice Ao35 t173.length co35 : Value).ownBlock ∧ some k_ ≠ (.slice Ao40 t181.length co40 : Value).ownBlock ∧ some k_ ≠ (.slice Ao41 t184.length co41 : Value).ownBlock) (.slice Ao39 t178.length co39) t178) := ⟨by (with_reducible repeat (first | apply Kd.R_alloc | apply Kd.R_drewN | apply Kd.R_drew)); exact Kd.R_mono (Kd.R_far (p := ⟨gb188, 4, none⟩) (Kd.R_far (p := ⟨gb188, 3, none⟩) (Kd.R_far (p := ⟨gb188, 2, none⟩) (Kd.R_far (p := ⟨gb188, 1, none⟩) (Kd.R_far (p := ⟨gb188, 0, none⟩) (Kd.R_types HO180.out BK188.out (by decide)) (fun _ hk => hk.2) (.int .i64 t176)) (fun _ hk => hk.2) (.int .i64 t177)) (fun _ hk => hk.2) (.slice Ao39 t178.length co39)) (fun _ hk => hk.2) (.slice Ao40 t181.length co40)) (fun _ hk => hk.2) (.slice Ao41 t184.length co41)) (fun _ hk => ⟨hk.1.1.1.1.1.1.2, ⟨hk.1.1.1.1.1.2, ⟨hk.1.1.1.1.2, ⟨hk.1.1.1.2, ⟨hk.1.1.2, ⟨hk.1.2, ⟨hk.1.1.1.1.1.1.1.1, hk.1.1.1.1.1.1.1.2⟩⟩⟩⟩⟩⟩⟩)⟩
    have n7_ : Aside0 (Kd.R (Kd.int .u8) 5 (((((w37.setCell ⟨gb188, 0, none⟩ (.int .i64 t176)).setCell ⟨gb188, 1, none⟩ (.int .i64 t177)).setCell ⟨gb188, 2, none⟩ (.slice Ao39 t178.length co39)).setCell ⟨gb188, 3, none⟩ (.slice Ao40 t181.length co40)).setCell ⟨gb188, 4, none⟩ (.slice Ao41 t184.length co41)) w.heap.size (fun k_ => some k_ ≠ (.slice Ao30 t156.length co30 : Value).ownBlock ∧ some k_ ≠ (.slice Ao31 t159.length co31 : Value).ownBlock ∧ some k_ ≠ (.slice Ao32 t162.length co32 : Value).ownBlock ∧ some k_ ≠ (.slice Ao33 t167.length co33 : Value).ownBlock ∧ some k_ ≠ (.slice Ao34 t170.length co34 : Value).ownBlock ∧ some k_ ≠ (.slice Ao35 t173.length co35 : Value).ownBlock ∧ some k_ ≠ (.slice Ao39 t178.length co39 : Value).ownBlock ∧ some k_ ≠ (.slice Ao41 t184.length co41 : Value).ownBlock) (.slice Ao40 t181.length co40) t181) := ⟨by (with_reducible repeat (first | apply Kd.R_alloc | apply Kd.R_drewN | apply Kd.R_drew)); exact Kd.R_mono (Kd.R_far (p := ⟨gb188, 4, none⟩) (Kd.R_far (p := ⟨gb188, 3, none⟩) (Kd.R_far (p := ⟨gb188, 2, none⟩) (Kd.R_far (p := ⟨gb188, 1, none⟩) (Kd.R_far (p := ⟨gb188, 0, none⟩) (Kd.R_types HO183.out BK188.out (by decide)) (fun _ hk => hk.2) (.int .i64 t176)) (fun _ hk => hk.2) (.int .i64 t177)) (fun _ hk => hk.2) (.slice Ao39 t178.length co39)) (fun _ hk => hk.2) (.slice Ao40 t181.length co40)) (fun _ hk => hk.2) (.slice Ao41 t184.length co41)) (fun _ hk => ⟨hk.1.1.1.1.1.1.2, ⟨hk.1.1.1.1.1.2, ⟨hk.1.1.1.1.2, ⟨hk.1.1.1.2, ⟨hk.1.1.2, ⟨hk.1.2, ⟨hk.1.1.1.1.1.1.1.1, hk.1.1.1.1.1.1.1.2⟩⟩⟩⟩⟩⟩⟩)⟩
    have n8_ : Aside0 (Kd.R (Kd.int .u8) 5 (((((w37.setCell ⟨gb188, 0, none⟩ (.int .i64 t176)).setCell ⟨gb188, 1, none⟩ (.int .i64 t177)).setCell ⟨gb188, 2, none⟩ (.slice Ao39 t178.length co39)).setCell ⟨gb188, 3, none⟩ (.slice Ao40 t181.length co40)).setCell ⟨gb188, 4, none⟩ (.slice Ao41 t184.length co41)) w.heap.size (fun k_ => some k_ ≠ (.slice Ao30 t156.length co30 : Value).ownBlock ∧ some k_ ≠ (.slice Ao31 t159.length co31 : Value).ownBlock ∧ some k_ ≠ (.slice Ao32 t162.length co32 : Value).ownBlock ∧ some k_ ≠ (.slice Ao33 t167.length co33 : Value).ownBlock ∧ some k_ ≠ (.slice Ao34 t170.length co34 : Value).ownBlock ∧ some k_ ≠ (.slice Ao35 t173.length co35 : Value).ownBlock ∧ some k_ ≠ (.slice Ao39 t178.length co39 : Value).ownBlock ∧ some k_ ≠ (.slice Ao40 t181.length co40 : Value).ownBlock) (.slice Ao41 t184.length co41) t184) := ⟨by (with_reducible repeat (first | apply Kd.R_alloc | apply Kd.R_drewN | apply Kd.R_drew)); exact Kd.R_mono (Kd.R_far (p := ⟨gb188, 4, none⟩) (Kd.R_far (p := ⟨gb188, 3, none⟩) (Kd.R_far (p := ⟨gb188, 2, none⟩) (Kd.R_far (p := ⟨gb188, 1, none⟩) (Kd.R_far (p := ⟨gb188, 0, none⟩) (Kd.R_types HO186.out BK188.out (by decide)) (fun _ hk => hk.2) (.int .i64 t176)) (fun _ hk => hk.2) (.int .i64 t177)) (fun _ hk => hk.2) (.slice Ao39 t178.length co39)) (fun _ hk => hk.2) (.slice Ao40 t181.length co40)) (fun _ hk => hk.2) (.slice Ao41 t184.length co41)) (fun _ hk => ⟨hk.1.1.1.1.1.1.2, ⟨hk.1.1.1.1.1.2, ⟨hk.1.1.1.1.2, ⟨hk.1.1.1.2, ⟨hk.1.1.2, ⟨hk.1.2, ⟨hk.1.1.1.1.1.1.1.1, hk.1.1.1.1.1.1.1.2⟩⟩⟩⟩⟩⟩⟩)⟩
    have n9_ : Aside0 ((((((w37.setCell ⟨gb188, 0, none⟩ (.int .i64 t176)).setCell ⟨gb188, 1, none⟩ (.int .i64 t177)).setCell ⟨gb188, 2, none⟩ (.slice Ao39 t178.length co39)).setCell ⟨gb188, 3, none⟩ (.slice Ao40 t181.length co40)).setCell ⟨gb188, 4, none⟩ (.slice Ao41 t184.length co41)).heap[gb188]? = some (.cells #[.int .i64 t176, .int .i64 t177, .slice Ao39 t178.length co39, .slice Ao40 t181.length co40, .slice Ao41 t184.length co41] 24 (0, 0))) := ⟨by (with_reducible repeat (first | refine blk_drewN ?_ _ | refine blk_drew ?_ | refine blk_alloc ?_ _)); refine blk_put (cs := #[.int .i64 t176, .int .i64 t177, .slice Ao39 t178.length co39, .slice Ao40 t181.length co40, .slice none 0 0]) ?_ 4 _ rfl; (with_reducible repeat (first | refine blk_drewN ?_ _ | refine blk_drew ?_ | refine blk_alloc ?_ _)); refine blk_put (cs := #[.int .i64 t176, .int .i64 t177, .slice Ao39 t178.length co39, .slice none 0 0, .slice none 0 0]) ?_ 3 _ rfl; (with_reducible repeat (first | refine blk_drewN ?_ _ | refine blk_drew ?_ | refine blk_alloc ?_ _)); refine blk_put (cs := #[.int .i64 t176, .int .i64 t177, .slice none 0 0, .slice none 0 0, .slice none 0 0]) ?_ 2 _ rfl; (with_reducible repeat (first | refine blk_drewN ?_ _ | refine blk_drew ?_ | refine blk_alloc ?_ _)); refine blk_put (cs := #[.int .i64 t176, .int .i64 0, .slice none 0 0, .slice none 0 0, .slice none 0 0]) ?_ 1 _ rfl; (with_reducible repeat (first | refine blk_drewN ?_ _ | refine blk_drew ?_ | refine blk_alloc ?_ _)); refine blk_put (cs := #[.int .i64 0, .int .i64 0, .slice none 0 0, .slice none 0 0, .slice none 0 0]) ?_ 0 _ rfl; (with_reducible repeat (first | refine blk_drewN ?_ _ | refine blk_drew ?_ | refine blk_alloc ?_ _)); exact BK188.out⟩
    have n10_ : Aside0 (Below w.heap.size w (((((w37.setCell ⟨gb188, 0, none⟩ (.int .i64 t176)).setCell ⟨gb188, 1, none⟩ (.int .i64 t177)).setCell ⟨gb188, 2, none⟩ (.slice Ao39 t178.length co39)).setCell ⟨gb188, 3, none⟩ (.slice Ao40 t181.length co40)).setCell ⟨gb188, 4, none⟩ (.slice Ao41 t184.length co41))) := ⟨by repeat (first | (with_reducible first | exact HB.out | apply below_alloc | apply pw_below_drewN | apply below_drew1 | refine below_set ?_ GE188.out) | exact HB.out)⟩
    (try clear HO158)
    (try clear HO161)
    (try clear HO164)
    (try clear HO169)
    (try clear HO172)
    (try clear HO175)
    (try clear HO180)
    (try clear HO183)
    (try clear HO186)
    (try clear BK188)
    (try clear HB)
    generalize (((((w37.setCell ⟨gb188, 0, none⟩ (.int .i64 t176)).setCell ⟨gb188, 1, none⟩ (.int .i64 t177)).setCell ⟨gb188, 2, none⟩ (.slice Ao39 t178.length co39)).setCell ⟨gb188, 3, none⟩ (.slice Ao40 t181.length co40)).setCell ⟨gb188, 4, none⟩ (.slice Ao41 t184.length co41)) = w42 at n0_ n1_ n2_ n3_ n4_ n5_ n6_ n7_ n8_ n9_ n10_ ⊢
    have HO158 := n0_
    have HO161 := n1_
    have HO164 := n2_
    have HO169 := n3_
    have HO172 := n4_
    have HO175 := n5_
    have HO180 := n6_
    have HO183 := n7_
    have HO186 := n8_
    have BK188 := n9_
    have HB := n10_
    clear n0_ n1_ n2_ n3_ n4_ n5_ n6_ n7_ n8_ n9_ n10_
    have n0_ := Aside0.mk (Kd.R_drew HO158.out)
    have n1_ := Aside0.mk (Kd.R_drew HO161.out)
    have n2_ := Aside0.mk (Kd.R_drew HO164.out)
    have n3_ := Aside0.mk (Kd.R_drew HO169.out)
    have n4_ := Aside0.mk (Kd.R_drew HO172.out)
    have n5_ := Aside0.mk (Kd.R_drew HO175.out)
    have n6_ := Aside0.mk (Kd.R_drew HO180.out)
    have n7_ := Aside0.mk (Kd.R_drew HO183.out)
    have n8_ := Aside0.mk (Kd.R_drew HO186.out)
    have n9_ := Aside0.mk (blk_drew BK188.out)
    have n10_ := Aside0.mk (below_drew1 HB.out)
    clear HO158
    clear HO161
    clear HO164
    clear HO169
    clear HO172
    clear HO175
    clear HO180
    clear HO183
    clear HO186
    clear BK188
    clear HB
    have HO158 := n0_
    have HO161 := n1_
    have HO164 := n2_
    have HO169 := n3_
    have HO172 := n4_
    have HO175 := n5_
    have HO180 := n6_
    have HO183 := n7_
    have HO186 := n8_
    have BK188 := n9_
    have HB := n10_
    clear n0_ n1_ n2_ n3_ n4_ n5_ n6_ n7_ n8_ n9_ n10_
    refine start_ (n := 8) (S := fun w' => True) (ds := []) #[false, false, false, false, false, false, false, false] (by kernel_rfl) rfl rfl trivial (fun hHeld => ?_); refine with_tabW cutroomlaw08_awake.tab2 cutroomlaw08_awake.bits2 (fun HT_ HW_ => ?_)
    generalize w42.drew = w43 at HO158 HO161 HO164 HO169 HO172 HO175 HO180 HO183 HO186 BK188 HB hHeld ⊢
    refine pure_ (i := 0) (N := some 9) (v := ?_) (a' := ?_) #[true, false, false, false, false, false, false, false] rfl rfl (any_of HT_.out (by kernel_rfl)) (fun _ _ _ h => h) (Or.inl ⟨by rfl, ?_⟩) ?_ ?_
    rotate_left
    · intro w'
      go_simp
      with_reducible rfl
    rotate_left
    · simp only [Act.put, List.setIfInBounds_toArray, List.set_cons_zero, List.set_cons_succ, i64_w, i32_w]
      rfl
    refine pure_ (i := 1) (N := some 10) (v := ?_) (a' := ?_) #[true, true, false, false, false, false, false, false] rfl rfl (any_of HT_.out (by kernel_rfl)) (fun _ _ _ h => h) (Or.inl ⟨by rfl, ?_⟩) ?_ ?_
    rotate_left
    · intro w'
      go_simp
      with_reducible rfl
    rotate_left
    · simp only [Act.put, List.setIfInBounds_toArray, List.set_cons_zero, List.set_cons_succ, i64_w, i32_w]
      rfl
    refine pure_ (i := 2) (N := some 11) (v := ?_) (a' := ?_) #[true, true, true, false, false, false, false, false] rfl rfl (any_of HT_.out (by kernel_rfl)) (fun _ _ _ h => h) (Or.inl ⟨by rfl, ?_⟩) ?_ ?_
    rotate_left
    · intro w'
      go_simp
      with_reducible rfl
    rotate_left
    · simp only [Act.put, List.setIfInBounds_toArray, List.set_cons_zero, List.set_cons_succ, i64_w, i32_w]
      rfl
    refine pure_ (i := 3) (N := some 12) (v := undef) (a' := ?_) #[true, true, true, true, false, false, false, false] rfl rfl (any_of HT_.out (by kernel_rfl)) (fun _ _ _ h => h) (Or.inr ⟨by rfl, rfl⟩) ?_ ?_
    rotate_left
    · simp only [Act.put, List.setIfInBounds_toArray, List.set_cons_zero, List.set_cons_succ, i64_w, i32_w]
      rfl
    refine pure_ (i := 4) (N := some 13) (v := undef) (a' := ?_) #[true, true, true, true, true, false, false, false] rfl rfl (any_of HT_.out (by kernel_rfl)) (fun _ _ _ h => h) (Or.inr ⟨by rfl, rfl⟩) ?_ ?_
    rotate_left
    · simp only [Act.put, List.setIfInBounds_toArray, List.set_cons_zero, List.set_cons_succ, i64_w, i32_w]
      rfl
    refine pure_ (i := 5) (N := some 14) (v := undef) (a' := ?_) #[true, true, true, true, true, true, false, false] rfl rfl (any_of HT_.out (by kernel_rfl)) (fun _ _ _ h => h) (Or.inr ⟨by rfl, rfl⟩) ?_ ?_
    rotate_left
    · simp only [Act.put, List.setIfInBounds_toArray, List.set_cons_zero, List.set_cons_succ, i64_w, i32_w]
      rfl
    refine pure_ (i := 6) (N := some 15) (v := ?_) (a' := ?_) #[true, true, true, true, true, true, true, false] rfl rfl (any_of HT_.out (by kernel_rfl)) (fun _ _ _ h => h) (Or.inl ⟨by rfl, ?_⟩) ?_ ?_
    rotate_left
    · intro w'
      go_simp
      with_reducible rfl
    rotate_left
    · simp only [Act.put, List.setIfInBounds_toArray, List.set_cons_zero, List.set_cons_succ, i64_w, i32_w]
      rfl
    refine pure_ (i := 7) (N := some 0) (v := ?_) (a' := ?_) #[true, true, true, true, true, true, true, true] rfl rfl (any_of HT_.out (by kernel_rfl)) (fun _ _ _ h => h) (Or.inl ⟨by rfl, ?_⟩) ?_ ?_
    rotate_left
    · intro w'
      go_simp
      with_reducible rfl
    rotate_left
    · simp only [Act.put, List.setIfInBounds_toArray, List.set_cons_zero, List.set_cons_succ, i64_w, i32_w]
      rfl
    refine done_ (done_of HT_.out (by kernel_rfl)) ?_
    try go_wp2
    go_ret
    exact ⟨by first | rfl | (simp [errW_none, errW_some] <;> rfl) | (simp [*, errW_none, errW_some] <;> rfl), by repeat (first | (with_reducible first | exact HB.out | apply below_alloc | apply pw_below_drewN | apply below_drew1 | refine below_set ?_ GE188.out) | exact HB.out)⟩

/-! ### motion_outside: function 31 -/
def motion_outside.f (a0_0 : Int) (a0_1 : Int) (l0_2 : List Int) (l0_3 : List Int) (l0_4 : List Int) (a1 : Int) (a2 : Int) (a3 : Int) (a4 : Int) : Option (Bool) := if a1 < 0 then (some true) else (if a2 < 0 then (some true) else (if (Int.tmod a1 2) = 0 then (if (Int.tmod a2 2) = 0 then (if a1 > (wrap64 (a0_0 - a3)) then (some true) else (some (decide (a2 > (wrap64 (a0_1 - a4)))))) else (some true)) else (some true)))
set_option maxHeartbeats 8000000 in
set_option maxRecDepth 100000 in
theorem motion_outside.calls (a0_0 : Int) (a0_1 : Int) (A0_2 : Option Addr) (c0_2 : Nat) (l0_2 : List Int) (A0_3 : Option Addr) (c0_3 : Nat) (l0_3 : List Int) (A0_4 : Option Addr) (c0_4 : Nat) (l0_4 : List Int) (a1 : Int) (a2 : Int) (a3 : Int) (a4 : Int) (r : Bool) (w : World) (hr0_2 : Kd.C (Kd.int .u8) w A0_2 l0_2.length l0_2) (hc0_2 : l0_2.length ≤ c0_2) (hr0_3 : Kd.C (Kd.int .u8) w A0_3 l0_3.length l0_3) (hc0_3 : l0_3.length ≤ c0_3) (hr0_4 : Kd.C (Kd.int .u8) w A0_4 l0_4.length l0_4) (hc0_4 : l0_4.length ≤ c0_4) (h : motion_outside.f a0_0 a0_1 l0_2 l0_3 l0_4 a1 a2 a3 a4 = some r) :
    Calls Try.prog 31 #[.agg #[.int .i64 a0_0, .int .i64 a0_1, .slice A0_2 l0_2.length c0_2, .slice A0_3 l0_3.length c0_3, .slice A0_4 l0_4.length c0_4], .int .i64 a1, .int .i64 a2, .int .i64 a3, .int .i64 a4] w fun e w' => e = .returned (.bool r) ∧ Below w.heap.size w w' := by
  have hu24 := Try.underlying24
  have HR0_2 := Aside0.mk hr0_2
  have HC0_2 := Aside0.mk hc0_2
  clear hr0_2 hc0_2
  have HR0_3 := Aside0.mk hr0_3
  have HC0_3 := Aside0.mk hc0_3
  clear hr0_3 hc0_3
  have HR0_4 := Aside0.mk hr0_4
  have HC0_4 := Aside0.mk hc0_4
  clear hr0_4 hc0_4
  have HB := Aside0.mk (Below.refl w.heap.size w)
  have H : (if a1 < 0 then (some true) else (if a2 < 0 then (some true) else (if (Int.tmod a1 2) = 0 then (if (Int.tmod a2 2) = 0 then (if a1 > (wrap64 (a0_0 - a3)) then (some true) else (some (decide (a2 > (wrap64 (a0_1 - a4)))))) else (some true)) else (some true)))) = some r := h
  clear h
  by_cases c6 : a1 < 0
  · rw [if_pos c6] at H
    have c6b0 : decide (a1 < 0) = true := decide_eq_true c6
    clear c6
    obtain rfl := Option.some.inj H
    go_enter Try.func31, Try.ntmps31
    go_wp2_with (first | ((with_reducible refine gate_dst (N := 5) rfl ?_); refine box_event ?hg (N := 5) ?hd (cs := #[.int .i64 a0_0, .int .i64 a0_1, .slice A0_2 l0_2.length c0_2, .slice A0_3 l0_3.length c0_3, .slice A0_4 l0_4.length c0_4]) (t := 24) ?hr ?_; (case hd => rfl); (case hg => rfl); (case hr => first | (go_simp; done) | (go_simp; rfl)); intro gb201 hg w7 hbox hb; have n0_ := Aside0.mk (below_step (by repeat (first | (with_reducible first | exact HB.out | apply below_alloc | apply pw_below_drewN | apply below_drew1) | exact HB.out)) hb); have n1_ := Aside0.mk (hbox); have n2_ := Aside0.mk ((by rw [hg]; exact (below_size (by repeat (first | (with_reducible first | exact HB.out | apply below_alloc | apply pw_below_drewN | apply below_drew1) | exact HB.out))) : w.heap.size ≤ gb201)); have n3_ := Aside0.mk ((by rw [hg]; exact (below_size (by repeat (first | (with_reducible first | exact HB.out | apply below_alloc | apply pw_below_drewN | apply below_drew1) | exact HB.out))) : w.heap.size ≤ gb201)); clear HB; have HB := n0_; have BK201 := n1_; have GW201 := n2_; have GE201 := n3_; clear n0_ n1_ n2_ n3_; clear hb hbox hg))
    go_ret
    exact ⟨by first | rfl | (simp [errW_none, errW_some] <;> rfl) | (simp [*, errW_none, errW_some] <;> rfl), by repeat (first | (with_reducible first | exact HB.out | apply below_alloc | apply pw_below_drewN | apply below_drew1 | refine below_set ?_ GE201.out) | exact HB.out)⟩
  · rw [if_neg c6] at H
    have c6b0 : decide (a1 < 0) = false := decide_eq_false c6
    clear c6
    by_cases c8 : a2 < 0
    · rw [if_pos c8] at H
      have c8b0 : decide (a2 < 0) = true := decide_eq_true c8
      clear c8
      obtain rfl := Option.some.inj H
      go_enter Try.func31, Try.ntmps31
      go_wp2_with (first | ((with_reducible refine gate_dst (N := 5) rfl ?_); refine box_event ?hg (N := 5) ?hd (cs := #[.int .i64 a0_0, .int .i64 a0_1, .slice A0_2 l0_2.length c0_2, .slice A0_3 l0_3.length c0_3, .slice A0_4 l0_4.length c0_4]) (t := 24) ?hr ?_; (case hd => rfl); (case hg => rfl); (case hr => first | (go_simp; done) | (go_simp; rfl)); intro gb201 hg w9 hbox hb; have n0_ := Aside0.mk (below_step (by repeat (first | (with_reducible first | exact HB.out | apply below_alloc | apply pw_below_drewN | apply below_drew1) | exact HB.out)) hb); have n1_ := Aside0.mk (hbox); have n2_ := Aside0.mk ((by rw [hg]; exact (below_size (by repeat (first | (with_reducible first | exact HB.out | apply below_alloc | apply pw_below_drewN | apply below_drew1) | exact HB.out))) : w.heap.size ≤ gb201)); have n3_ := Aside0.mk ((by rw [hg]; exact (below_size (by repeat (first | (with_reducible first | exact HB.out | apply below_alloc | apply pw_below_drewN | apply below_drew1) | exact HB.out))) : w.heap.size ≤ gb201)); clear HB; have HB := n0_; have BK201 := n1_; have GW201 := n2_; have GE201 := n3_; clear n0_ n1_ n2_ n3_; clear hb hbox hg))
      go_ret
      exact ⟨by first | rfl | (simp [errW_none, errW_some] <;> rfl) | (simp [*, errW_none, errW_some] <;> rfl), by repeat (first | (with_reducible first | exact HB.out | apply below_alloc | apply pw_below_drewN | apply below_drew1 | refine below_set ?_ GE201.out) | exact HB.out)⟩
    · rw [if_neg c8] at H
      have c8b0 : decide (a2 < 0) = false := decide_eq_false c8
      clear c8
      by_cases c10 : (Int.tmod a1 2) = 0
      · rw [if_pos c10] at H
        have c10b0 : ((Int.tmod a1 2) == 0) = true := beq_iff_eq.mpr c10
        have c10b1 : ((Int.tmod a1 2) != 0) = false := bne_eq_false_iff_eq.mpr c10
        clear c10
        by_cases c11 : (Int.tmod a2 2) = 0
        · rw [if_pos c11] at H
          have c11b0 : ((Int.tmod a2 2) == 0) = true := beq_iff_eq.mpr c11
          have c11b1 : ((Int.tmod a2 2) != 0) = false := bne_eq_false_iff_eq.mpr c11
          clear c11
          by_cases c12 : a1 > (wrap64 (a0_0 - a3))
          · rw [if_pos c12] at H
            have c12b0 : decide ((wrap64 (a0_0 - a3)) < a1) = true := decide_eq_true c12
            clear c12
            obtain rfl := Option.some.inj H
            go_enter Try.func31, Try.ntmps31
            go_wp2_with (first | ((with_reducible refine gate_dst (N := 5) rfl ?_); refine box_event ?hg (N := 5) ?hd (cs := #[.int .i64 a0_0, .int .i64 a0_1, .slice A0_2 l0_2.length c0_2, .slice A0_3 l0_3.length c0_3, .slice A0_4 l0_4.length c0_4]) (t := 24) ?hr ?_; (case hd => rfl); (case hg => rfl); (case hr => first | (go_simp; done) | (go_simp; rfl)); intro gb201 hg w13 hbox hb; have n0_ := Aside0.mk (below_step (by repeat (first | (with_reducible first | exact HB.out | apply below_alloc | apply pw_below_drewN | apply below_drew1) | exact HB.out)) hb); have n1_ := Aside0.mk (hbox); have n2_ := Aside0.mk ((by rw [hg]; exact (below_size (by repeat (first | (with_reducible first | exact HB.out | apply below_alloc | apply pw_below_drewN | apply below_drew1) | exact HB.out))) : w.heap.size ≤ gb201)); have n3_ := Aside0.mk ((by rw [hg]; exact (below_size (by repeat (first | (with_reducible first | exact HB.out | apply below_alloc | apply pw_below_drewN | apply below_drew1) | exact HB.out))) : w.heap.size ≤ gb201)); clear HB; have HB := n0_; have BK201 := n1_; have GW201 := n2_; have GE201 := n3_; clear n0_ n1_ n2_ n3_; clear hb hbox hg; have hcz14_0 : w13.cell? ⟨gb201, 0, none⟩ = some (.int .i64 a0_0) := (blk_cell BK201.out 0).trans rfl; have hcz14_1 : w13.cell? ⟨gb201, 1, none⟩ = some (.int .i64 a0_1) := (blk_cell BK201.out 1).trans rfl; have hcz14_2 : w13.cell? ⟨gb201, 2, none⟩ = some (.slice A0_2 l0_2.length c0_2) := (blk_cell BK201.out 2).trans rfl; have hcz14_3 : w13.cell? ⟨gb201, 3, none⟩ = some (.slice A0_3 l0_3.length c0_3) := (blk_cell BK201.out 3).trans rfl; have hcz14_4 : w13.cell? ⟨gb201, 4, none⟩ = some (.slice A0_4 l0_4.length c0_4) := (blk_cell BK201.out 4).trans rfl; have hfz14_0 := blk_frozen BK201.out 0; have hfz14_1 := blk_frozen BK201.out 1; have hfz14_2 := blk_frozen BK201.out 2; have hfz14_3 := blk_frozen BK201.out 3; have hfz14_4 := blk_frozen BK201.out 4))
            go_ret
            exact ⟨by first | rfl | (simp [errW_none, errW_some] <;> rfl) | (simp [*, errW_none, errW_some] <;> rfl), by repeat (first | (with_reducible first | exact HB.out | apply below_alloc | apply pw_below_drewN | apply below_drew1 | refine below_set ?_ GE201.out) | exact HB.out)⟩
          · rw [if_neg c12] at H
            have c12b0 : decide ((wrap64 (a0_0 - a3)) < a1) = false := decide_eq_false c12
            clear c12
            obtain rfl := Option.some.inj H
            go_enter Try.func31, Try.ntmps31
            go_wp2_with (first | ((with_reducible refine gate_dst (N := 5) rfl ?_); refine box_event ?hg (N := 5) ?hd (cs := #[.int .i64 a0_0, .int .i64 a0_1, .slice A0_2 l0_2.length c0_2, .slice A0_3 l0_3.length c0_3, .slice A0_4 l0_4.length c0_4]) (t := 24) ?hr ?_; (case hd => rfl); (case hg => rfl); (case hr => first | (go_simp; done) | (go_simp; rfl)); intro gb201 hg w15 hbox hb; have n0_ := Aside0.mk (below_step (by repeat (first | (with_reducible first | exact HB.out | apply below_alloc | apply pw_below_drewN | apply below_drew1) | exact HB.out)) hb); have n1_ := Aside0.mk (hbox); have n2_ := Aside0.mk ((by rw [hg]; exact (below_size (by repeat (first | (with_reducible first | exact HB.out | apply below_alloc | apply pw_below_drewN | apply below_drew1) | exact HB.out))) : w.heap.size ≤ gb201)); have n3_ := Aside0.mk ((by rw [hg]; exact (below_size (by repeat (first | (with_reducible first | exact HB.out | apply below_alloc | apply pw_below_drewN | apply below_drew1) | exact HB.out))) : w.heap.size ≤ gb201)); clear HB; have HB := n0_; have BK201 := n1_; have GW201 := n2_; have GE201 := n3_; clear n0_ n1_ n2_ n3_; clear hb hbox hg; have hcz16_0 : w15.cell? ⟨gb201, 0, none⟩ = some (.int .i64 a0_0) := (blk_cell BK201.out 0).trans rfl; have hcz16_1 : w15.cell? ⟨gb201, 1, none⟩ = some (.int .i64 a0_1) := (blk_cell BK201.out 1).trans rfl; have hcz16_2 : w15.cell? ⟨gb201, 2, none⟩ = some (.slice A0_2 l0_2.length c0_2) := (blk_cell BK201.out 2).trans rfl; have hcz16_3 : w15.cell? ⟨gb201, 3, none⟩ = some (.slice A0_3 l0_3.length c0_3) := (blk_cell BK201.out 3).trans rfl; have hcz16_4 : w15.cell? ⟨gb201, 4, none⟩ = some (.slice A0_4 l0_4.length c0_4) := (blk_cell BK201.out 4).trans rfl; have hfz16_0 := blk_frozen BK201.out 0; have hfz16_1 := blk_frozen BK201.out 1; have hfz16_2 := blk_frozen BK201.out 2; have hfz16_3 := blk_frozen BK201.out 3; have hfz16_4 := blk_frozen BK201.out 4))
            go_ret
            exact ⟨by first | rfl | (simp [errW_none, errW_some] <;> rfl) | (simp [*, errW_none, errW_some] <;> rfl), by repeat (first | (with_reducible first | exact HB.out | apply below_alloc | apply pw_below_drewN | apply below_drew1 | refine below_set ?_ GE201.out) | exact HB.out)⟩
        · rw [if_neg c11] at H
          have c11b0 : ((Int.tmod a2 2) == 0) = false := beq_eq_false_iff_ne.mpr c11
          have c11b1 : ((Int.tmod a2 2) != 0) = true := bne_iff_ne.mpr c11
          obtain rfl := Option.some.inj H
          go_enter Try.func31, Try.ntmps31
          go_wp2_with (first | ((with_reducible refine gate_dst (N := 5) rfl ?_); refine box_event ?hg (N := 5) ?hd (cs := #[.int .i64 a0_0, .int .i64 a0_1, .slice A0_2 l0_2.length c0_2, .slice A0_3 l0_3.length c0_3, .slice A0_4 l0_4.length c0_4]) (t := 24) ?hr ?_; (case hd => rfl); (case hg => rfl); (case hr => first | (go_simp; done) | (go_simp; rfl)); intro gb201 hg w17 hbox hb; have n0_ := Aside0.mk (below_step (by repeat (first | (with_reducible first | exact HB.out | apply below_alloc | apply pw_below_drewN | apply below_drew1) | exact HB.out)) hb); have n1_ := Aside0.mk (hbox); have n2_ := Aside0.mk ((by rw [hg]; exact (below_size (by repeat (first | (with_reducible first | exact HB.out | apply below_alloc | apply pw_below_drewN | apply below_drew1) | exact HB.out))) : w.heap.size ≤ gb201)); have n3_ := Aside0.mk ((by rw [hg]; exact (below_size (by repeat (first | (with_reducible first | exact HB.out | apply below_alloc | apply pw_below_drewN | apply below_drew1) | exact HB.out))) : w.heap.size ≤ gb201)); clear HB; have HB := n0_; have BK201 := n1_; have GW201 := n2_; have GE201 := n3_; clear n0_ n1_ n2_ n3_; clear hb hbox hg))
          go_ret
          exact ⟨by first | rfl | (simp [errW_none, errW_some] <;> rfl) | (simp [*, errW_none, errW_some] <;> rfl), by repeat (first | (with_reducible first | exact HB.out | apply below_alloc | apply pw_below_drewN | apply below_drew1 | refine below_set ?_ GE201.out) | exact HB.out)⟩
      · rw [if_neg c10] at H
        have c10b0 : ((Int.tmod a1 2) == 0) = false := beq_eq_false_iff_ne.mpr c10
        have c10b1 : ((Int.tmod a1 2) != 0) = true := bne_iff_ne.mpr c10
        obtain rfl := Option.some.inj H
        go_enter Try.func31, Try.ntmps31
        go_wp2_with (first | ((with_reducible refine gate_dst (N := 5) rfl ?_); refine box_event ?hg (N := 5) ?hd (cs := #[.int .i64 a0_0, .int .i64 a0_1, .slice A0_2 l0_2.length c0_2, .slice A0_3 l0_3.length c0_3, .slice A0_4 l0_4.length c0_4]) (t := 24) ?hr ?_; (case hd => rfl); (case hg => rfl); (case hr => first | (go_simp; done) | (go_simp; rfl)); intro gb201 hg w18 hbox hb; have n0_ := Aside0.mk (below_step (by repeat (first | (with_reducible first | exact HB.out | apply below_alloc | apply pw_below_drewN | apply below_drew1) | exact HB.out)) hb); have n1_ := Aside0.mk (hbox); have n2_ := Aside0.mk ((by rw [hg]; exact (below_size (by repeat (first | (with_reducible first | exact HB.out | apply below_alloc | apply pw_below_drewN | apply below_drew1) | exact HB.out))) : w.heap.size ≤ gb201)); have n3_ := Aside0.mk ((by rw [hg]; exact (below_size (by repeat (first | (with_reducible first | exact HB.out | apply below_alloc | apply pw_below_drewN | apply below_drew1) | exact HB.out))) : w.heap.size ≤ gb201)); clear HB; have HB := n0_; have BK201 := n1_; have GW201 := n2_; have GE201 := n3_; clear n0_ n1_ n2_ n3_; clear hb hbox hg))
        go_ret
        exact ⟨by first | rfl | (simp [errW_none, errW_some] <;> rfl) | (simp [*, errW_none, errW_some] <;> rfl), by repeat (first | (with_reducible first | exact HB.out | apply below_alloc | apply pw_below_drewN | apply below_drew1 | refine below_set ?_ GE201.out) | exact HB.out)⟩

/-! ### motion_short: function 44 -/
def motion_short.f (a0 : Int) : Option (Bool) := if a0 ≥ (-63) then (some (decide (a0 ≤ 63))) else (some false)
set_option maxHeartbeats 8000000 in
set_option maxRecDepth 100000 in
theorem motion_short.calls (a0 : Int) (r : Bool) (w : World) (h : motion_short.f a0 = some r) :
    Calls Try.prog 44 #[.int .i64 a0] w fun e w' => e = .returned (.bool r) ∧ Drawn0 w w' := by
  have H : (if a0 ≥ (-63) then (some (decide (a0 ≤ 63))) else (some false)) = some r := h
  clear h
  by_cases c2 : a0 ≥ (-63)
  · rw [if_pos c2] at H
    have c2b0 : decide ((-63) ≤ a0) = true := decide_eq_true c2
    clear c2
    obtain rfl := Option.some.inj H
    go_enter Try.func44, Try.ntmps44
    go_wp2
    go_ret
    exact ⟨by first | rfl | (simp; done) | (simp [*]; done), by repeat (first | exact Drawn0.refl _ | apply Drawn0.step)⟩
  · rw [if_neg c2] at H
    have c2b0 : decide ((-63) ≤ a0) = false := decide_eq_false c2
    clear c2
    obtain rfl := Option.some.inj H
    go_enter Try.func44, Try.ntmps44
    go_wp2
    go_ret
    exact ⟨by first | rfl | (simp; done) | (simp [*]; done), by repeat (first | exact Drawn0.refl _ | apply Drawn0.step)⟩

/-! ### motion_mayMove: function 32 -/
def motion_mayMove.f (a0_0 : Int) (a0_1 : Int) : Option (Bool) := (motion_short.f a0_0).bind fun t203 => (if t203 = true then ((motion_short.f a0_1).bind fun t204 => (some t204)) else (some false))
set_option maxHeartbeats 8000000 in
set_option maxRecDepth 100000 in
theorem motion_mayMove.calls (a0_0 : Int) (a0_1 : Int) (r : Bool) (w : World) (h : motion_mayMove.f a0_0 a0_1 = some r) :
    Calls Try.prog 32 #[.agg #[.int .i64 a0_0, .int .i64 a0_1]] w fun e w' => e = .returned (.bool r) ∧ Below w.heap.size w w' := by
  have hu32 := Try.underlying32
  have HB := Aside0.mk (Below.refl w.heap.size w)
  have H : ((motion_short.f a0_0).bind fun t203 => (if t203 = true then ((motion_short.f a0_1).bind fun t204 => (some t204)) else (some false))) = some r := h
  clear h
  replace H := Option.bind_eq_some_iff.mp H
  obtain ⟨t203, A20, H⟩ := H
  replace H : (if t203 = true then ((motion_short.f a0_1).bind fun t204 => (some t204)) else (some false)) = some r := H
  have A2 := Aside0.mk A20
  clear A20
  by_cases c3 : t203 = true
  · subst c3
    have H1 : ((motion_short.f a0_1).bind fun t204 => (some t204)) = some r := by rw [if_pos rfl] at H; exact H
    clear H
    have H := H1
    clear H1
    replace H := Option.bind_eq_some_iff.mp H
    obtain ⟨t204, A40, H⟩ := H
    replace H : (some t204) = some r := H
    have A4 := Aside0.mk A40
    clear A40
    obtain rfl := Option.some.inj H
    go_enter Try.func32, Try.ntmps32
    go_wp2_with (first | ((with_reducible refine gate_dst (N := 1) rfl ?_); refine box_event ?hg (N := 1) ?hd (cs := #[.int .i64 a0_0, .int .i64 a0_1]) (t := 32) ?hr ?_; (case hd => rfl); (case hg => rfl); (case hr => first | (go_simp; done) | (go_simp; rfl)); intro gb202 hg w5 hbox hb; have n0_ := Aside0.mk (below_step (by repeat (first | (with_reducible first | exact HB.out | apply below_alloc | apply pw_below_drewN | apply below_drew1) | exact HB.out)) hb); have n1_ := Aside0.mk (hbox); have n2_ := Aside0.mk ((by rw [hg]; exact (below_size (by repeat (first | (with_reducible first | exact HB.out | apply below_alloc | apply pw_below_drewN | apply below_drew1) | exact HB.out))) : w.heap.size ≤ gb202)); have n3_ := Aside0.mk ((by rw [hg]; exact (below_size (by repeat (first | (with_reducible first | exact HB.out | apply below_alloc | apply pw_below_drewN | apply below_drew1) | exact HB.out))) : w.heap.size ≤ gb202)); clear HB; have HB := n0_; have BK202 := n1_; have GW202 := n2_; have GE202 := n3_; clear n0_ n1_ n2_ n3_; clear hb hbox hg; have hcz6_0 : w5.cell? ⟨gb202, 0, none⟩ = some (.int .i64 a0_0) := (blk_cell BK202.out 0).trans rfl; have hcz6_1 : w5.cell? ⟨gb202, 1, none⟩ = some (.int .i64 a0_1) := (blk_cell BK202.out 1).trans rfl; have hfz6_0 := blk_frozen BK202.out 0; have hfz6_1 := blk_frozen BK202.out 1) | ((with_reducible refine gate_callee (f := 44) rfl ?_); refine goesL_ (some 5) rfl rfl Try.func44 (by kernel_rfl) rfl #[.int .i64 a0_0] rfl (by (try simp only [List.map_toArray, List.map_cons, List.map_nil]); first | done | rfl | (simp only [List.length_drop, List.length_take]; rfl)) ?_; (with_reducible refine (motion_short.calls a0_0 true _ A2.out).mono ?_); rintro e w' ⟨rfl, ⟨nd, rfl⟩⟩; refine ⟨_, rfl, ?_⟩) | (go_at_call 44; (with_reducible refine (motion_short.calls a0_1 t204 _ A4.out).mono ?_); rintro e w' ⟨rfl, ⟨nd, rfl⟩⟩))
    go_ret
    exact ⟨by first | rfl | (simp [errW_none, errW_some] <;> rfl) | (simp [*, errW_none, errW_some] <;> rfl), by repeat (first | (with_reducible first | exact HB.out | apply below_alloc | apply pw_below_drewN | apply below_drew1 | refine below_set ?_ GE202.out) | exact HB.out)⟩
  · replace c3 := Bool.eq_false_iff.mpr c3
    subst c3
    have H1 : (some false) = some r := by rw [if_neg (show ¬ (false = true) by decide)] at H; exact H
    clear H
    have H := H1
    clear H1
    obtain rfl := Option.some.inj H
    go_enter Try.func32, Try.ntmps32
    go_wp2_with (first | ((with_reducible refine gate_dst (N := 1) rfl ?_); refine box_event ?hg (N := 1) ?hd (cs := #[.int .i64 a0_0, .int .i64 a0_1]) (t := 32) ?hr ?_; (case hd => rfl); (case hg => rfl); (case hr => first | (go_simp; done) | (go_simp; rfl)); intro gb202 hg w7 hbox hb; have n0_ := Aside0.mk (below_step (by repeat (first | (with_reducible first | exact HB.out | apply below_alloc | apply pw_below_drewN | apply below_drew1) | exact HB.out)) hb); have n1_ := Aside0.mk (hbox); have n2_ := Aside0.mk ((by rw [hg]; exact (below_size (by repeat (first | (with_reducible first | exact HB.out | apply below_alloc | apply pw_below_drewN | apply below_drew1) | exact HB.out))) : w.heap.size ≤ gb202)); have n3_ := Aside0.mk ((by rw [hg]; exact (below_size (by repeat (first | (with_reducible first | exact HB.out | apply below_alloc | apply pw_below_drewN | apply below_drew1) | exact HB.out))) : w.heap.size ≤ gb202)); clear HB; have HB := n0_; have BK202 := n1_; have GW202 := n2_; have GE202 := n3_; clear n0_ n1_ n2_ n3_; clear hb hbox hg; have hcz8_0 : w7.cell? ⟨gb202, 0, none⟩ = some (.int .i64 a0_0) := (blk_cell BK202.out 0).trans rfl; have hcz8_1 : w7.cell? ⟨gb202, 1, none⟩ = some (.int .i64 a0_1) := (blk_cell BK202.out 1).trans rfl; have hfz8_0 := blk_frozen BK202.out 0; have hfz8_1 := blk_frozen BK202.out 1) | ((with_reducible refine gate_callee (f := 44) rfl ?_); refine goesL_ (some 5) rfl rfl Try.func44 (by kernel_rfl) rfl #[.int .i64 a0_0] rfl (by (try simp only [List.map_toArray, List.map_cons, List.map_nil]); first | done | rfl | (simp only [List.length_drop, List.length_take]; rfl)) ?_; (with_reducible refine (motion_short.calls a0_0 false _ A2.out).mono ?_); rintro e w' ⟨rfl, ⟨nd, rfl⟩⟩; refine ⟨_, rfl, ?_⟩))
    go_ret
    exact ⟨by first | rfl | (simp [errW_none, errW_some] <;> rfl) | (simp [*, errW_none, errW_some] <;> rfl), by repeat (first | (with_reducible first | exact HB.out | apply below_alloc | apply pw_below_drewN | apply below_drew1 | refine below_set ?_ GE202.out) | exact HB.out)⟩

/-! ### motion_component_at: function 46 -/
def motion_component_at.f (l0_0 : List Int) (a0_1 : Int) (a0_2 : Int) (a1 : Int) (a2 : Int) : Option (Int) := if 0 ≤ (wrap64 ((wrap64 ((mn (mx a2 0) (wrap64 (a0_2 - 1))) * a0_1)) + (mn (mx a1 0) (wrap64 (a0_1 - 1))))) then (if (wrap64 ((wrap64 ((mn (mx a2 0) (wrap64 (a0_2 - 1))) * a0_1)) + (mn (mx a1 0) (wrap64 (a0_1 - 1))))) < (l0_0.length : Int) then (some (wrap64 (rd l0_0 (wrap64 ((wrap64 ((mn (mx a2 0) (wrap64 (a0_2 - 1))) * a0_1)) + (mn (mx a1 0) (wrap64 (a0_1 - 1)))))))) else (none)) else (none)
set_option maxHeartbeats 8000000 in
set_option maxRecDepth 100000 in
theorem motion_component_at.calls (A0_0 : Option Addr) (c0_0 : Nat) (l0_0 : List Int) (a0_1 : Int) (a0_2 : Int) (a1 : Int) (a2 : Int) (r : Int) (w : World) (hr0_0 : Kd.C (Kd.int .u8) w A0_0 l0_0.length l0_0) (hc0_0 : l0_0.length ≤ c0_0) (h : motion_component_at.f l0_0 a0_1 a0_2 a1 a2 = some r) :
    Calls Try.prog 46 #[.agg #[.slice A0_0 l0_0.length c0_0, .int .i64 a0_1, .int .i64 a0_2], .int .i64 a1, .int .i64 a2] w fun e w' => e = .returned (.int .i64 r) ∧ Below w.heap.size w w' := by
  have hu54 := Try.underlying54
  have HR0_0 := Aside0.mk hr0_0
  have HC0_0 := Aside0.mk hc0_0
  clear hr0_0 hc0_0
  have HB := Aside0.mk (Below.refl w.heap.size w)
  have H : (if 0 ≤ (wrap64 ((wrap64 ((mn (mx a2 0) (wrap64 (a0_2 - 1))) * a0_1)) + (mn (mx a1 0) (wrap64 (a0_1 - 1))))) then (if (wrap64 ((wrap64 ((mn (mx a2 0) (wrap64 (a0_2 - 1))) * a0_1)) + (mn (mx a1 0) (wrap64 (a0_1 - 1))))) < (l0_0.length : Int) then (some (wrap64 (rd l0_0 (wrap64 ((wrap64 ((mn (mx a2 0) (wrap64 (a0_2 - 1))) * a0_1)) + (mn (mx a1 0) (wrap64 (a0_1 - 1)))))))) else (none)) else (none)) = some r := h
  clear h
  obtain ⟨ji4, hji4⟩ : ∃ j_ : Int, (mx a2 0) = j_ := ⟨_, rfl⟩
  replace H : (if 0 ≤ (wrap64 ((wrap64 ((mn (ji4) (wrap64 (a0_2 - 1))) * a0_1)) + (mn (mx a1 0) (wrap64 (a0_1 - 1))))) then (if (wrap64 ((wrap64 ((mn (ji4) (wrap64 (a0_2 - 1))) * a0_1)) + (mn (mx a1 0) (wrap64 (a0_1 - 1))))) < (l0_0.length : Int) then (some (wrap64 (rd l0_0 (wrap64 ((wrap64 ((mn (ji4) (wrap64 (a0_2 - 1))) * a0_1)) + (mn (mx a1 0) (wrap64 (a0_1 - 1)))))))) else (none)) else (none)) = some r := by first | (rw [hji4] at H; exact H) | (simp only [hji4] at H ⊢; exact H)
  (try (have hji4l : 0 ≤ ji4 := by (rw [← hji4]; unfold mx; (repeat' split) <;> omega)))
  (try (have hji4m : 0 ≤ ji4 := by omega))
  have hji4_ : (if a2 < 0 then 0 else a2) = ji4 := hji4
  obtain ⟨ji5, hji5⟩ : ∃ j_ : Int, (mn (ji4) (wrap64 (a0_2 - 1))) = j_ := ⟨_, rfl⟩
  replace H : (if 0 ≤ (wrap64 ((wrap64 ((ji5) * a0_1)) + (mn (mx a1 0) (wrap64 (a0_1 - 1))))) then (if (wrap64 ((wrap64 ((ji5) * a0_1)) + (mn (mx a1 0) (wrap64 (a0_1 - 1))))) < (l0_0.length : Int) then (some (wrap64 (rd l0_0 (wrap64 ((wrap64 ((ji5) * a0_1)) + (mn (mx a1 0) (wrap64 (a0_1 - 1)))))))) else (none)) else (none)) = some r := by first | (rw [hji5] at H; exact H) | (simp only [hji5] at H ⊢; exact H)
  have hji5_ : (if (wrap64 (a0_2 - 1)) < (ji4) then (wrap64 (a0_2 - 1)) else (ji4)) = ji5 := hji5
  obtain ⟨ji6, hji6⟩ : ∃ j_ : Int, (mx a1 0) = j_ := ⟨_, rfl⟩
  replace H : (if 0 ≤ (wrap64 ((wrap64 ((ji5) * a0_1)) + (mn (ji6) (wrap64 (a0_1 - 1))))) then (if (wrap64 ((wrap64 ((ji5) * a0_1)) + (mn (ji6) (wrap64 (a0_1 - 1))))) < (l0_0.length : Int) then (some (wrap64 (rd l0_0 (wrap64 ((wrap64 ((ji5) * a0_1)) + (mn (ji6) (wrap64 (a0_1 - 1)))))))) else (none)) else (none)) = some r := by first | (rw [hji6] at H; exact H) | (simp only [hji6] at H ⊢; exact H)
  (try (have hji6l : 0 ≤ ji6 := by (rw [← hji6]; unfold mx; (repeat' split) <;> omega)))
  (try (have hji6m : 0 ≤ ji6 := by omega))
  have hji6_ : (if a1 < 0 then 0 else a1) = ji6 := hji6
  obtain ⟨ji7, hji7⟩ : ∃ j_ : Int, (mn (ji6) (wrap64 (a0_1 - 1))) = j_ := ⟨_, rfl⟩
  replace H : (if 0 ≤ (wrap64 ((wrap64 ((ji5) * a0_1)) + (ji7))) then (if (wrap64 ((wrap64 ((ji5) * a0_1)) + (ji7))) < (l0_0.length : Int) then (some (wrap64 (rd l0_0 (wrap64 ((wrap64 ((ji5) * a0_1)) + (ji7)))))) else (none)) else (none)) = some r := by first | (rw [hji7] at H; exact H) | (simp only [hji7] at H ⊢; exact H)
  have hji7_ : (if (wrap64 (a0_1 - 1)) < (ji6) then (wrap64 (a0_1 - 1)) else (ji6)) = ji7 := hji7
  obtain ⟨ji8, hji8⟩ : ∃ j_ : Int, (wrap64 ((wrap64 ((ji5) * a0_1)) + (ji7))) = j_ := ⟨_, rfl⟩
  replace H : (if 0 ≤ (ji8) then (if (ji8) < (l0_0.length : Int) then (some (wrap64 (rd l0_0 (ji8)))) else (none)) else (none)) = some r := by first | (rw [hji8] at H; exact H) | (simp only [hji8] at H ⊢; exact H)
  have hji8w : (IntKind.i64.wrap ((wrap64 ((ji5) * a0_1)) + (ji7))) = ji8 := (i64_w _).trans hji8
  by_cases c9 : 0 ≤ (ji8)
  · rw [if_pos c9] at H
    have c9b0 : decide (0 ≤ (ji8)) = true := decide_eq_true c9
    clear c9
    by_cases c10 : (ji8) < (l0_0.length : Int)
    · rw [if_pos c10] at H
      have c10b0 : decide ((ji8) < (l0_0.length : Int)) = true := decide_eq_true c10
      clear c10
      obtain rfl := Option.some.inj H
      go_enter Try.func46, Try.ntmps46
      go_wp2_with (first | ((with_reducible refine gate_dst (N := 3) rfl ?_); refine box_event ?hg (N := 3) ?hd (cs := #[.slice A0_0 l0_0.length c0_0, .int .i64 a0_1, .int .i64 a0_2]) (t := 54) ?hr ?_; (case hd => rfl); (case hg => rfl); (case hr => first | (go_simp; done) | (go_simp; rfl)); intro gb205 hg w11 hbox hb; have n0_ := Aside0.mk (below_step (by repeat (first | (with_reducible first | exact HB.out | apply below_alloc | apply pw_below_drewN | apply below_drew1) | exact HB.out)) hb); have n1_ := Aside0.mk (hbox); have n2_ := Aside0.mk ((by rw [hg]; exact (below_size (by repeat (first | (with_reducible first | exact HB.out | apply below_alloc | apply pw_below_drewN | apply below_drew1) | exact HB.out))) : w.heap.size ≤ gb205)); have n3_ := Aside0.mk ((by rw [hg]; exact (below_size (by repeat (first | (with_reducible first | exact HB.out | apply below_alloc | apply pw_below_drewN | apply below_drew1) | exact HB.out))) : w.heap.size ≤ gb205)); clear HB; have HB := n0_; have BK205 := n1_; have GW205 := n2_; have GE205 := n3_; clear n0_ n1_ n2_ n3_; clear hb hbox hg; have hcz12_0 : w11.cell? ⟨gb205, 0, none⟩ = some (.slice A0_0 l0_0.length c0_0) := (blk_cell BK205.out 0).trans rfl; have hcz12_1 : w11.cell? ⟨gb205, 1, none⟩ = some (.int .i64 a0_1) := (blk_cell BK205.out 1).trans rfl; have hcz12_2 : w11.cell? ⟨gb205, 2, none⟩ = some (.int .i64 a0_2) := (blk_cell BK205.out 2).trans rfl; have hfz12_0 := blk_frozen BK205.out 0; have hfz12_1 := blk_frozen BK205.out 1; have hfz12_2 := blk_frozen BK205.out 2; have p206 : 0 ≤ ((ji8) : Int) := of_decide_eq_true (by first | (with_reducible assumption) | assumption); have q206 : (ji8) < (l0_0.length : Int) := of_decide_eq_true (by first | (with_reducible assumption) | assumption); obtain ⟨ad206, e206, hx206_0⟩ := Kd.at_int HR0_0.out (ji8) p206 q206; cases e206; replace hx206_0 := (HB.out.cell (World.block_lt_of_cell? w _ hx206_0)).trans hx206_0; replace p206 := eq_true p206; replace q206 := eq_true q206))
      go_ret
      exact ⟨by first | rfl | (simp [errW_none, errW_some] <;> rfl) | (simp only [← hji4, ← hji5, ← hji6, ← hji7, ← hji8]; first | rfl | (simp [errW_none, errW_some] <;> rfl)) | (simp [*, errW_none, errW_some] <;> rfl), by repeat (first | (with_reducible first | exact HB.out | apply below_alloc | apply pw_below_drewN | apply below_drew1 | refine below_set ?_ GE205.out) | exact HB.out)⟩
    · rw [if_neg c10] at H
      exact absurd H (by simp)
  · rw [if_neg c9] at H
    exact absurd H (by simp)

/-! ### motion_predicted_1: function 45 -/
theorem comp_drew {w w1 : World} {g : Nat} {x y z : Value} (h : w1.cell? ⟨g, 0, none⟩ = some x ∧ w1.cell? ⟨g, 1, none⟩ = some y ∧ w1.cell? ⟨g, 2, none⟩ = some z ∧ Below w.heap.size w w1) :
    w1.drew.cell? ⟨g, 0, none⟩ = some x ∧ w1.drew.cell? ⟨g, 1, none⟩ = some y ∧ w1.drew.cell? ⟨g, 2, none⟩ = some z ∧ Below w.heap.size w w1.drew := ⟨h.1, h.2.1, h.2.2.1, below_drew1 h.2.2.2⟩
theorem comp_step {w w1 w2 : World} {g : Nat} {x y z : Value} (h : w1.cell? ⟨g, 0, none⟩ = some x ∧ w1.cell? ⟨g, 1, none⟩ = some y ∧ w1.cell? ⟨g, 2, none⟩ = some z ∧ Below w.heap.size w w1) (hb : Below w1.heap.size w1 w2) :
    w2.cell? ⟨g, 0, none⟩ = some x ∧ w2.cell? ⟨g, 1, none⟩ = some y ∧ w2.cell? ⟨g, 2, none⟩ = some z ∧ Below w.heap.size w w2 :=
  ⟨(hb.cell (World.block_lt_of_cell? _ _ h.1)).trans h.1, (hb.cell (World.block_lt_of_cell? _ _ h.2.1)).trans h.2.1, (hb.cell (World.block_lt_of_cell? _ _ h.2.2.1)).trans h.2.2.1, below_step h.2.2.2 hb⟩
theorem comp_C {w w1 : World} {g : Nat} {x y z : Value} {A : Option Addr} {n : Nat} {l : List Int} (h : w1.cell? ⟨g, 0, none⟩ = some x ∧ w1.cell? ⟨g, 1, none⟩ = some y ∧ w1.cell? ⟨g, 2, none⟩ = some z ∧ Below w.heap.size w w1) (hr : Kd.C (Kd.int .u8) w A n l) : Kd.C (Kd.int .u8) w1 A n l := Kd.C_below hr h.2.2.2

theorem motion_predicted_1_one (a0 a1 : Int) (A : Option Addr) (c : Nat) (l : List Int) (cw ch : Int) (r1 res : Int) (w : World) (hr : Kd.C (Kd.int .u8) w A l.length l) (hc : l.length ≤ c) (g : Nat) (hb : w.heap[g]? = some (.cells #[.slice A l.length c, .int .i64 cw, .int .i64 ch] 54 (0, 0)))
    (p0 : Go.bits .and .i64 a0 1 = 0) (p1 : Go.bits .and .i64 a1 1 = 0) (h1 : motion_component_at.f l cw ch (a0 / 2) (a1 / 2) = some r1) (hres : IntKind.u8.wrap (r1) = res) :
    Calls Try.prog 45 #[.int .i64 a0, .int .i64 a1, .pointer (some ⟨g, 0, none⟩)] w fun e w' => e = .returned (.int .u8 res) ∧ Below w.heap.size w w' := by
  have t0 : (Go.bits .and .i64 a0 1 == 0) = true := by simpa using p0
  have t1 : (Go.bits .and .i64 a1 1 == 0) = true := by simpa using p1
  clear p0 p1
  have H1 := Aside0.mk h1
  have HR := Aside0.mk hr
  have HB := Aside0.mk hb
  clear h1 hr hb
  have hcz0 : w.cell? ⟨g, 0, none⟩ = some (.slice A l.length c) := (blk_cell HB.out 0).trans rfl
  have hcz1 : w.cell? ⟨g, 1, none⟩ = some (.int .i64 cw) := (blk_cell HB.out 1).trans rfl
  have hcz2 : w.cell? ⟨g, 2, none⟩ = some (.int .i64 ch) := (blk_cell HB.out 2).trans rfl
  go_enter Try.func45, Try.ntmps45
  go_wp2_with (first | ((with_reducible refine (motion_component_at.calls A c l cw ch _ _ r1 _ HR.out hc H1.out).mono ?_); rintro e w2 ⟨rfl, hb2⟩))
  go_ret
  exact ⟨by first | exact congrArg (fun z => Ending.returned (Value.int .u8 z)) hres | (rw [← hres]; rfl), hb2⟩
theorem motion_predicted_1_right (a0 a1 : Int) (A : Option Addr) (c : Nat) (l : List Int) (cw ch : Int) (r1 r2 res : Int) (w : World) (hr : Kd.C (Kd.int .u8) w A l.length l) (hc : l.length ≤ c) (g : Nat) (hb : w.heap[g]? = some (.cells #[.slice A l.length c, .int .i64 cw, .int .i64 ch] 54 (0, 0)))
    (p0 : ¬ Go.bits .and .i64 a0 1 = 0) (p1 : Go.bits .and .i64 a1 1 = 0) (h1 : motion_component_at.f l cw ch (a0 / 2) (a1 / 2) = some r1) (h2 : motion_component_at.f l cw ch (wrap64 (a0 / 2 + 1)) (a1 / 2) = some r2) (hres : IntKind.u8.wrap (IntKind.i64.wrap (IntKind.i64.wrap (r1 + r2) + 1) / 2) = res) :
    Calls Try.prog 45 #[.int .i64 a0, .int .i64 a1, .pointer (some ⟨g, 0, none⟩)] w fun e w' => e = .returned (.int .u8 res) ∧ Below w.heap.size w w' := by
  have t0 : (Go.bits .and .i64 a0 1 == 0) = false := by simpa using p0
  have t1 : (Go.bits .and .i64 a1 1 == 0) = true := by simpa using p1
  clear p0 p1
  rw [← i64_w] at h2
  have H1 := Aside0.mk h1
  have H2 := Aside0.mk h2
  have HR := Aside0.mk hr
  have HB := Aside0.mk hb
  clear h1 h2 hr hb
  go_enter Try.func45, Try.ntmps45
  go_wp2
  have hcz0 : w.cell? ⟨g, 0, none⟩ = some (.slice A l.length c) := (blk_cell HB.out 0).trans rfl
  have hcz1 : w.cell? ⟨g, 1, none⟩ = some (.int .i64 cw) := (blk_cell HB.out 1).trans rfl
  have hcz2 : w.cell? ⟨g, 2, none⟩ = some (.int .i64 ch) := (blk_cell HB.out 2).trans rfl
  have hS := And.intro hcz0 (And.intro hcz1 (And.intro hcz2 (Below.refl w.heap.size w)))
  go_region_held3 (fun w' => w'.cell? ⟨g, 0, none⟩ = some (.slice A l.length c) ∧ w'.cell? ⟨g, 1, none⟩ = some (.int .i64 cw) ∧ w'.cell? ⟨g, 2, none⟩ = some (.int .i64 ch) ∧ Below w.heap.size w w') (first | assumption | exact comp_drew (by assumption) | exact comp_step (by assumption) (by assumption) | (refine comp_step ?_ (by assumption); exact comp_drew (by assumption)))
    (first
      | (go_at_call 46; ((with_reducible refine (motion_component_at.calls A c l cw ch _ _ r1 _ (by first | exact Kd.C_drew (comp_C (by assumption) HR.out) | exact comp_C (by assumption) HR.out) hc H1.out).mono ?_); rintro e w2 ⟨rfl, hb2⟩))
      | (go_at_call 46; ((with_reducible refine (motion_component_at.calls A c l cw ch _ _ r2 _ (by first | exact Kd.C_drew (comp_C (by assumption) HR.out) | exact comp_C (by assumption) HR.out) hc H2.out).mono ?_); rintro e w2 ⟨rfl, hb2⟩)))
  all_goals (go_wp2; go_ret; exact ⟨by first | exact congrArg (fun z => Ending.returned (Value.int .u8 z)) hres | (rw [← hres]; rfl), And.right (And.right (And.right (by assumption)))⟩)
theorem motion_predicted_1_down (a0 a1 : Int) (A : Option Addr) (c : Nat) (l : List Int) (cw ch : Int) (r1 r2 res : Int) (w : World) (hr : Kd.C (Kd.int .u8) w A l.length l) (hc : l.length ≤ c) (g : Nat) (hb : w.heap[g]? = some (.cells #[.slice A l.length c, .int .i64 cw, .int .i64 ch] 54 (0, 0)))
    (p0 : Go.bits .and .i64 a0 1 = 0) (p1 : ¬ Go.bits .and .i64 a1 1 = 0) (h1 : motion_component_at.f l cw ch (a0 / 2) (a1 / 2) = some r1) (h2 : motion_component_at.f l cw ch (a0 / 2) (wrap64 (a1 / 2 + 1)) = some r2) (hres : IntKind.u8.wrap (IntKind.i64.wrap (IntKind.i64.wrap (r1 + r2) + 1) / 2) = res) :
    Calls Try.prog 45 #[.int .i64 a0, .int .i64 a1, .pointer (some ⟨g, 0, none⟩)] w fun e w' => e = .returned (.int .u8 res) ∧ Below w.heap.size w w' := by
  have t0 : (Go.bits .and .i64 a0 1 == 0) = true := by simpa using p0
  have t1 : (Go.bits .and .i64 a1 1 == 0) = false := by simpa using p1
  clear p0 p1
  rw [← i64_w] at h2
  have H1 := Aside0.mk h1
  have H2 := Aside0.mk h2
  have HR := Aside0.mk hr
  have HB := Aside0.mk hb
  clear h1 h2 hr hb
  go_enter Try.func45, Try.ntmps45
  go_wp2
  have hcz0 : w.cell? ⟨g, 0, none⟩ = some (.slice A l.length c) := (blk_cell HB.out 0).trans rfl
  have hcz1 : w.cell? ⟨g, 1, none⟩ = some (.int .i64 cw) := (blk_cell HB.out 1).trans rfl
  have hcz2 : w.cell? ⟨g, 2, none⟩ = some (.int .i64 ch) := (blk_cell HB.out 2).trans rfl
  have hS := And.intro hcz0 (And.intro hcz1 (And.intro hcz2 (Below.refl w.heap.size w)))
  go_region_held3 (fun w' => w'.cell? ⟨g, 0, none⟩ = some (.slice A l.length c) ∧ w'.cell? ⟨g, 1, none⟩ = some (.int .i64 cw) ∧ w'.cell? ⟨g, 2, none⟩ = some (.int .i64 ch) ∧ Below w.heap.size w w') (first | assumption | exact comp_drew (by assumption) | exact comp_step (by assumption) (by assumption) | (refine comp_step ?_ (by assumption); exact comp_drew (by assumption)))
    (first
      | (go_at_call 46; ((with_reducible refine (motion_component_at.calls A c l cw ch _ _ r1 _ (by first | exact Kd.C_drew (comp_C (by assumption) HR.out) | exact comp_C (by assumption) HR.out) hc H1.out).mono ?_); rintro e w2 ⟨rfl, hb2⟩))
      | (go_at_call 46; ((with_reducible refine (motion_component_at.calls A c l cw ch _ _ r2 _ (by first | exact Kd.C_drew (comp_C (by assumption) HR.out) | exact comp_C (by assumption) HR.out) hc H2.out).mono ?_); rintro e w2 ⟨rfl, hb2⟩)))
  all_goals (go_wp2; go_ret; exact ⟨by first | exact congrArg (fun z => Ending.returned (Value.int .u8 z)) hres | (rw [← hres]; rfl), And.right (And.right (And.right (by assumption)))⟩)
theorem motion_predicted_1_four (a0 a1 : Int) (A : Option Addr) (c : Nat) (l : List Int) (cw ch : Int) (r1 r2 r3 r4 res : Int) (w : World) (hr : Kd.C (Kd.int .u8) w A l.length l) (hc : l.length ≤ c) (g : Nat) (hb : w.heap[g]? = some (.cells #[.slice A l.length c, .int .i64 cw, .int .i64 ch] 54 (0, 0)))
    (p0 : ¬ Go.bits .and .i64 a0 1 = 0) (p1 : ¬ Go.bits .and .i64 a1 1 = 0) (h1 : motion_component_at.f l cw ch (a0 / 2) (a1 / 2) = some r1) (h2 : motion_component_at.f l cw ch (wrap64 (a0 / 2 + 1)) (a1 / 2) = some r2) (h3 : motion_component_at.f l cw ch (a0 / 2) (wrap64 (a1 / 2 + 1)) = some r3) (h4 : motion_component_at.f l cw ch (wrap64 (a0 / 2 + 1)) (wrap64 (a1 / 2 + 1)) = some r4) (hres : IntKind.u8.wrap (IntKind.i64.wrap (IntKind.i64.wrap (IntKind.i64.wrap (IntKind.i64.wrap (r1 + r2) + r3) + r4) + 2) / 4) = res) :
    Calls Try.prog 45 #[.int .i64 a0, .int .i64 a1, .pointer (some ⟨g, 0, none⟩)] w fun e w' => e = .returned (.int .u8 res) ∧ Below w.heap.size w w' := by
  have t0 : (Go.bits .and .i64 a0 1 == 0) = false := by simpa using p0
  have t1 : (Go.bits .and .i64 a1 1 == 0) = false := by simpa using p1
  clear p0 p1
  rw [← i64_w] at h2
  rw [← i64_w] at h3
  rw [← i64_w, ← i64_w] at h4
  have H1 := Aside0.mk h1
  have H2 := Aside0.mk h2
  have H3 := Aside0.mk h3
  have H4 := Aside0.mk h4
  have HR := Aside0.mk hr
  have HB := Aside0.mk hb
  clear h1 h2 h3 h4 hr hb
  go_enter Try.func45, Try.ntmps45
  go_wp2
  have hcz0 : w.cell? ⟨g, 0, none⟩ = some (.slice A l.length c) := (blk_cell HB.out 0).trans rfl
  have hcz1 : w.cell? ⟨g, 1, none⟩ = some (.int .i64 cw) := (blk_cell HB.out 1).trans rfl
  have hcz2 : w.cell? ⟨g, 2, none⟩ = some (.int .i64 ch) := (blk_cell HB.out 2).trans rfl
  have hS := And.intro hcz0 (And.intro hcz1 (And.intro hcz2 (Below.refl w.heap.size w)))
  go_region_held3 (fun w' => w'.cell? ⟨g, 0, none⟩ = some (.slice A l.length c) ∧ w'.cell? ⟨g, 1, none⟩ = some (.int .i64 cw) ∧ w'.cell? ⟨g, 2, none⟩ = some (.int .i64 ch) ∧ Below w.heap.size w w') (first | assumption | exact comp_drew (by assumption) | exact comp_step (by assumption) (by assumption) | (refine comp_step ?_ (by assumption); exact comp_drew (by assumption)))
    (first
      | (go_at_call 46; ((with_reducible refine (motion_component_at.calls A c l cw ch _ _ r1 _ (by first | exact Kd.C_drew (comp_C (by assumption) HR.out) | exact comp_C (by assumption) HR.out) hc H1.out).mono ?_); rintro e w2 ⟨rfl, hb2⟩))
      | (go_at_call 46; ((with_reducible refine (motion_component_at.calls A c l cw ch _ _ r2 _ (by first | exact Kd.C_drew (comp_C (by assumption) HR.out) | exact comp_C (by assumption) HR.out) hc H2.out).mono ?_); rintro e w2 ⟨rfl, hb2⟩))
      | (go_at_call 46; ((with_reducible refine (motion_component_at.calls A c l cw ch _ _ r3 _ (by first | exact Kd.C_drew (comp_C (by assumption) HR.out) | exact comp_C (by assumption) HR.out) hc H3.out).mono ?_); rintro e w2 ⟨rfl, hb2⟩))
      | (go_at_call 46; ((with_reducible refine (motion_component_at.calls A c l cw ch _ _ r4 _ (by first | exact Kd.C_drew (comp_C (by assumption) HR.out) | exact comp_C (by assumption) HR.out) hc H4.out).mono ?_); rintro e w2 ⟨rfl, hb2⟩)))
  all_goals (go_wp2; go_ret; exact ⟨by first | exact congrArg (fun z => Ending.returned (Value.int .u8 z)) hres | (rw [← hres]; rfl), And.right (And.right (And.right (by assumption)))⟩)
def motion_predicted_1.f (a0 a1 : Int) (l2_0 : List Int) (a2_1 a2_2 : Int) : Option Int :=
  if Go.bits .and .i64 a0 1 = 0 then
    (if Go.bits .and .i64 a1 1 = 0 then
      (match motion_component_at.f l2_0 a2_1 a2_2 (a0 / 2) (a1 / 2) with | some r1 => some (r1 % 256) | none => none)
    else
      (match motion_component_at.f l2_0 a2_1 a2_2 (a0 / 2) (a1 / 2), motion_component_at.f l2_0 a2_1 a2_2 (a0 / 2) (wrap64 (a1 / 2 + 1)) with | some r1, some r2 => some ((wrap64 (wrap64 (r1 + r2) + 1) / 2) % 256) | _, _ => none))
  else
    (if Go.bits .and .i64 a1 1 = 0 then
      (match motion_component_at.f l2_0 a2_1 a2_2 (a0 / 2) (a1 / 2), motion_component_at.f l2_0 a2_1 a2_2 (wrap64 (a0 / 2 + 1)) (a1 / 2) with | some r1, some r2 => some ((wrap64 (wrap64 (r1 + r2) + 1) / 2) % 256) | _, _ => none)
    else
      (match motion_component_at.f l2_0 a2_1 a2_2 (a0 / 2) (a1 / 2), motion_component_at.f l2_0 a2_1 a2_2 (wrap64 (a0 / 2 + 1)) (a1 / 2), motion_component_at.f l2_0 a2_1 a2_2 (a0 / 2) (wrap64 (a1 / 2 + 1)), motion_component_at.f l2_0 a2_1 a2_2 (wrap64 (a0 / 2 + 1)) (wrap64 (a1 / 2 + 1)) with
      | some r1, some r2, some r3, some r4 => some ((wrap64 (wrap64 (wrap64 (wrap64 (r1 + r2) + r3) + r4) + 2) / 4) % 256) | _, _, _, _ => none))
theorem motion_predicted_1.calls (a0 a1 : Int) (A2_0 : Option Addr) (c2_0 : Nat) (l2_0 : List Int) (a2_1 a2_2 : Int) (r : Int) (w : World) (hr2_0 : Kd.C (Kd.int .u8) w A2_0 l2_0.length l2_0) (hc2_0 : l2_0.length ≤ c2_0) (h : motion_predicted_1.f a0 a1 l2_0 a2_1 a2_2 = some r)
    (g : Nat) (hb : w.heap[g]? = some (.cells #[.slice A2_0 l2_0.length c2_0, .int .i64 a2_1, .int .i64 a2_2] 54 (0, 0))) :
    Calls Try.prog 45 #[.int .i64 a0, .int .i64 a1, .pointer (some ⟨g, 0, none⟩)] w fun e w' => e = .returned (.int .u8 r) ∧ Below w.heap.size w w' := by
  unfold motion_predicted_1.f at h
  have e8 : ∀ x : Int, IntKind.u8.wrap x = x % 256 := fun x => IntKind.wrap_u8 x
  split at h
  · rename_i p0
    split at h
    · rename_i p1
      split at h
      · rename_i r1 h1
        obtain rfl := Option.some.inj h
        exact motion_predicted_1_one a0 a1 A2_0 c2_0 l2_0 a2_1 a2_2 r1 _ w hr2_0 hc2_0 g hb p0 p1 h1 (e8 _)
      · exact absurd h (by simp)
    · rename_i p1
      split at h
      · rename_i r1 r2 h1 h2
        obtain rfl := Option.some.inj h
        exact motion_predicted_1_down a0 a1 A2_0 c2_0 l2_0 a2_1 a2_2 r1 r2 _ w hr2_0 hc2_0 g hb p0 p1 h1 h2 (by simp only [e8, i64_w])
      · exact absurd h (by simp)
  · rename_i p0
    split at h
    · rename_i p1
      split at h
      · rename_i r1 r2 h1 h2
        obtain rfl := Option.some.inj h
        exact motion_predicted_1_right a0 a1 A2_0 c2_0 l2_0 a2_1 a2_2 r1 r2 _ w hr2_0 hc2_0 g hb p0 p1 h1 h2 (by simp only [e8, i64_w])
      · exact absurd h (by simp)
    · rename_i p1
      split at h
      · rename_i r1 r2 r3 r4 h1 h2 h3 h4
        obtain rfl := Option.some.inj h
        exact motion_predicted_1_four a0 a1 A2_0 c2_0 l2_0 a2_1 a2_2 r1 r2 r3 r4 _ w hr2_0 hc2_0 g hb p0 p1 h1 h2 h3 h4 (by simp only [e8, i64_w])
      · exact absurd h (by simp)

end Go.Proofs.Ytnihjbcdlgfklaa.PMotionMirror
