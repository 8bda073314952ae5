-- Written by a program of this session, after the form of the kit's print; each text is checked by Lean alone.
import Derived.Test.YtnihjbcdlgfklaaPMotionStillx0
import Derived.Test.YtnihjbcdlgfklaaPMotionStillx1
import Derived.Test.YtnihjbcdlgfklaaPMotionStillx2
import Derived.Test.YtnihjbcdlgfklaaPMotionStillx3
import Derived.Test.YtnihjbcdlgfklaaPMotionStillx5
import Derived.Test.YtnihjbcdlgfklaaPMotionStillx7
import Derived.Test.YtnihjbcdlgfklaaPMotionStillx8
namespace Go.Proofs.Ytnihjbcdlgfklaa.PMotionStill
open Go.RowKit Go.Proofs.YtnihjbcdlgfklaaW.PrintWords Go.Proofs.YtnihjbcdlgfklaaW.PrintLast Go.Proofs.YtnihjbcdlgfklaaW.PrintMore
attribute [local go_sem] max2_int min2_int max_two min_two max_three min_three max_four min_four   -- for this text's walks alone
set_option linter.unusedVariables false
set_option linter.unusedSimpArgs false

/-! ### cutroomlaw08_MotionStill: function 5 -/
mutual
def cutroomlaw08_MotionStill.j0 : Nat → Int → Int → Int → Int → Bool → Int → Int → List Int → List Int → List Int → Option (Bool)
  | 0, _, _, _, _, _, _, _, _, _, _ => none
  | k + 1, x1, x2, x3, x4, x55, x264000, x264001, x264002, x264003, x264004 => if x55 = true then ((cutroomlaw08_awake.f k).bind fun t266 => (some t266)) else ((motion_Predict.f k x264000 x264001 x264002 x264003 x264004 (wrap64 (16 * x1)) (wrap64 (16 * x2)) 16 16 0 0).bind fun bt267 => ((cutroomref07_Macroblock.f k x264000 x264001 x264002 x264003 x264004 x1 x2).bind fun bt280 => (if bt267.2.2.2.2.2 = 0 then ((cutroomref07_Equal.f bt267.1 bt267.2.1 bt267.2.2.1 bt267.2.2.2.1 bt267.2.2.2.2.1 bt280.1 bt280.2.1 bt280.2.2.1 bt280.2.2.2.1 bt280.2.2.2.2.1).bind fun t293 => (cutroomlaw08_MotionStill.j1 k x1 x2 x3 x4 (!t293) x264000 x264001 x264002 x264003 x264004)) else (cutroomlaw08_MotionStill.j1 k x1 x2 x3 x4 true x264000 x264001 x264002 x264003 x264004))))
def cutroomlaw08_MotionStill.j1 : Nat → Int → Int → Int → Int → Bool → Int → Int → List Int → List Int → List Int → Option (Bool)
  | 0, _, _, _, _, _, _, _, _, _, _ => none
  | k + 1, x1, x2, x3, x4, x81, x264000, x264001, x264002, x264003, x264004 => if x81 = true then (some false) else (if x3 < (-15) then (cutroomlaw08_MotionStill.j2 k x1 x2 x3 x4 true x264000 x264001 x264002 x264003 x264004) else (if x3 > 15 then (cutroomlaw08_MotionStill.j2 k x1 x2 x3 x4 true x264000 x264001 x264002 x264003 x264004) else (if x4 < (-15) then (cutroomlaw08_MotionStill.j2 k x1 x2 x3 x4 true x264000 x264001 x264002 x264003 x264004) else (if x4 > 15 then (cutroomlaw08_MotionStill.j2 k x1 x2 x3 x4 true x264000 x264001 x264002 x264003 x264004) else (if (wrap64 ((wrap64 (16 * x1)) + (wrap64 (2 * x3)))) < 0 then (cutroomlaw08_MotionStill.j2 k x1 x2 x3 x4 true x264000 x264001 x264002 x264003 x264004) else (if (wrap64 ((wrap64 (16 * x2)) + (wrap64 (2 * x4)))) < 0 then (cutroomlaw08_MotionStill.j2 k x1 x2 x3 x4 true x264000 x264001 x264002 x264003 x264004) else (if (wrap64 ((wrap64 ((wrap64 (16 * x1)) + (wrap64 (2 * x3)))) + 16)) > x264000 then (cutroomlaw08_MotionStill.j2 k x1 x2 x3 x4 true x264000 x264001 x264002 x264003 x264004) else (cutroomlaw08_MotionStill.j2 k x1 x2 x3 x4 (decide ((wrap64 ((wrap64 ((wrap64 (16 * x2)) + (wrap64 (2 * x4)))) + 16)) > x264001)) x264000 x264001 x264002 x264003 x264004))))))))
def cutroomlaw08_MotionStill.j2 : Nat → Int → Int → Int → Int → Bool → Int → Int → List Int → List Int → List Int → Option (Bool)
  | 0, _, _, _, _, _, _, _, _, _, _ => none
  | k + 1, x1, x2, x3, x4, x133, x264000, x264001, x264002, x264003, x264004 => if x133 = true then ((cutroomlaw08_awake.f k).bind fun t294 => (some t294)) else ((motion_Predict.f k x264000 x264001 x264002 x264003 x264004 (wrap64 (16 * x1)) (wrap64 (16 * x2)) 16 16 (wrap64 (4 * x3)) (wrap64 (4 * x4))).bind fun bt295 => ((cutroomref07_Blank.f 16 16).bind fun bt307 => ((cutroomref07_Paste.f k bt307.1 bt307.2.1 bt307.2.2.1 bt307.2.2.2.1 bt307.2.2.2.2 0 0 x264000 x264001 x264002 x264003 x264004 (wrap64 ((wrap64 (16 * x1)) + (wrap64 (2 * x3)))) (wrap64 ((wrap64 (16 * x2)) + (wrap64 (2 * x4)))) 16 16).bind fun bt319 => ((cutroomlaw08_awake.f k).bind fun t322 => (if t322 = true then (if bt295.2.2.2.2.2 = 0 then ((cutroomref07_Equal.f bt295.1 bt295.2.1 bt295.2.2.1 bt295.2.2.2.1 bt295.2.2.2.2.1 bt307.1 bt307.2.1 bt319.1 bt319.2.1 bt319.2.2).bind fun t323 => (some t323)) else (some false)) else (some false))))))
end
def cutroomlaw08_MotionStill.f (k : Nat) (a0_0 : Int) (a0_1 : Int) (l0_2 : List Int) (l0_3 : List Int) (l0_4 : List Int) (a1 : Int) (a2 : Int) (a3 : Int) (a4 : Int) : Option (Bool) := (cutroomlaw08_light.f a0_0 a0_1 l0_2 l0_3 l0_4).bind fun t264 => (if t264 = true then ((cutroomref07_Valid.f a0_0 a0_1 l0_2 l0_3 l0_4).bind fun t265 => (if t265 = true then (if a1 < 0 then (cutroomlaw08_MotionStill.j0 k a1 a2 a3 a4 true a0_0 a0_1 l0_2 l0_3 l0_4) else (if a2 < 0 then (cutroomlaw08_MotionStill.j0 k a1 a2 a3 a4 true a0_0 a0_1 l0_2 l0_3 l0_4) else (if a1 > 3 then (cutroomlaw08_MotionStill.j0 k a1 a2 a3 a4 true a0_0 a0_1 l0_2 l0_3 l0_4) else (if a2 > 3 then (cutroomlaw08_MotionStill.j0 k a1 a2 a3 a4 true a0_0 a0_1 l0_2 l0_3 l0_4) else (if (wrap64 ((wrap64 (16 * a1)) + 16)) > a0_0 then (cutroomlaw08_MotionStill.j0 k a1 a2 a3 a4 true a0_0 a0_1 l0_2 l0_3 l0_4) else (cutroomlaw08_MotionStill.j0 k a1 a2 a3 a4 (decide ((wrap64 ((wrap64 (16 * a2)) + 16)) > a0_1)) a0_0 a0_1 l0_2 l0_3 l0_4)))))) else (cutroomlaw08_MotionStill.j0 k a1 a2 a3 a4 true a0_0 a0_1 l0_2 l0_3 l0_4))) else (cutroomlaw08_MotionStill.j0 k a1 a2 a3 a4 true a0_0 a0_1 l0_2 l0_3 l0_4))
theorem cutroomlaw08_MotionStill.mono_l : ∀ k, (∀ y0 y1 y2 y3 y4 y5 y6 y7 y8 y9, LeO (cutroomlaw08_MotionStill.j0 k y0 y1 y2 y3 y4 y5 y6 y7 y8 y9) (cutroomlaw08_MotionStill.j0 (k + 1) y0 y1 y2 y3 y4 y5 y6 y7 y8 y9)) ∧ (∀ y0 y1 y2 y3 y4 y5 y6 y7 y8 y9, LeO (cutroomlaw08_MotionStill.j1 k y0 y1 y2 y3 y4 y5 y6 y7 y8 y9) (cutroomlaw08_MotionStill.j1 (k + 1) y0 y1 y2 y3 y4 y5 y6 y7 y8 y9)) ∧ (∀ y0 y1 y2 y3 y4 y5 y6 y7 y8 y9, LeO (cutroomlaw08_MotionStill.j2 k y0 y1 y2 y3 y4 y5 y6 y7 y8 y9) (cutroomlaw08_MotionStill.j2 (k + 1) y0 y1 y2 y3 y4 y5 y6 y7 y8 y9))
  | 0 => ⟨fun _ _ _ _ _ _ _ _ _ _ r h => by simp [cutroomlaw08_MotionStill.j0] at h, fun _ _ _ _ _ _ _ _ _ _ r h => by simp [cutroomlaw08_MotionStill.j1] at h, fun _ _ _ _ _ _ _ _ _ _ r h => by simp [cutroomlaw08_MotionStill.j2] at h⟩
  | k + 1 => by
    obtain ⟨ih0, ih1, ih2⟩ := cutroomlaw08_MotionStill.mono_l k
    refine ⟨?_, ?_, ?_⟩
    · intro y0 y1 y2 y3 y4 y5 y6 y7 y8 y9
      unfold cutroomlaw08_MotionStill.j0
      repeat' first
      | (with_reducible exact ih0 _ _ _ _ _ _ _ _ _ _)
      | (with_reducible exact ih1 _ _ _ _ _ _ _ _ _ _)
      | (with_reducible exact ih2 _ _ _ _ _ _ _ _ _ _)
      | (with_reducible exact cutroomlaw08_awake.mono _)
      | (with_reducible exact cutroomref07_Macroblock.mono _ _ _ _ _ _ _ _)
      | (with_reducible exact cutroomref07_Paste.mono _ _ _ _ _ _ _ _ _ _ _ _ _ _ _ _ _)
      | (with_reducible exact motion_Predict.mono _ _ _ _ _ _ _ _ _ _ _ _)
      | (with_reducible exact LeO.refl _)
      | (with_reducible exact LeO.none _)
      | (with_reducible refine LeO.ite ?_ ?_)
      | (with_reducible refine LeO.bind ?_ (fun _ => ?_))
      | exact ih0 _ _ _ _ _ _ _ _ _ _
      | exact ih1 _ _ _ _ _ _ _ _ _ _
      | exact ih2 _ _ _ _ _ _ _ _ _ _
      | exact cutroomlaw08_awake.mono _
      | exact cutroomref07_Macroblock.mono _ _ _ _ _ _ _ _
      | exact cutroomref07_Paste.mono _ _ _ _ _ _ _ _ _ _ _ _ _ _ _ _ _
      | exact motion_Predict.mono _ _ _ _ _ _ _ _ _ _ _ _
      | exact LeO.none _
      | refine LeO.ite ?_ ?_
      | refine LeO.bind ?_ (fun _ => ?_)
    · intro y0 y1 y2 y3 y4 y5 y6 y7 y8 y9
      unfold cutroomlaw08_MotionStill.j1
      repeat' first
      | (with_reducible exact ih0 _ _ _ _ _ _ _ _ _ _)
      | (with_reducible exact ih1 _ _ _ _ _ _ _ _ _ _)
      | (with_reducible exact ih2 _ _ _ _ _ _ _ _ _ _)
      | (with_reducible exact cutroomlaw08_awake.mono _)
      | (with_reducible exact cutroomref07_Macroblock.mono _ _ _ _ _ _ _ _)
      | (with_reducible exact cutroomref07_Paste.mono _ _ _ _ _ _ _ _ _ _ _ _ _ _ _ _ _)
      | (with_reducible exact motion_Predict.mono _ _ _ _ _ _ _ _ _ _ _ _)
      | (with_reducible exact LeO.refl _)
      | (with_reducible exact LeO.none _)
      | (with_reducible refine LeO.ite ?_ ?_)
      | (with_reducible refine LeO.bind ?_ (fun _ => ?_))
      | exact ih0 _ _ _ _ _ _ _ _ _ _
      | exact ih1 _ _ _ _ _ _ _ _ _ _
      | exact ih2 _ _ _ _ _ _ _ _ _ _
      | exact cutroomlaw08_awake.mono _
      | exact cutroomref07_Macroblock.mono _ _ _ _ _ _ _ _
      | exact cutroomref07_Paste.mono _ _ _ _ _ _ _ _ _ _ _ _ _ _ _ _ _
      | exact motion_Predict.mono _ _ _ _ _ _ _ _ _ _ _ _
      | exact LeO.none _
      | refine LeO.ite ?_ ?_
      | refine LeO.bind ?_ (fun _ => ?_)
    · intro y0 y1 y2 y3 y4 y5 y6 y7 y8 y9
      unfold cutroomlaw08_MotionStill.j2
      repeat' first
      | (with_reducible exact ih0 _ _ _ _ _ _ _ _ _ _)
      | (with_reducible exact ih1 _ _ _ _ _ _ _ _ _ _)
      | (with_reducible exact ih2 _ _ _ _ _ _ _ _ _ _)
      | (with_reducible exact cutroomlaw08_awake.mono _)
      | (with_reducible exact cutroomref07_Macroblock.mono _ _ _ _ _ _ _ _)
      | (with_reducible exact cutroomref07_Paste.mono _ _ _ _ _ _ _ _ _ _ _ _ _ _ _ _ _)
      | (with_reducible exact motion_Predict.mono _ _ _ _ _ _ _ _ _ _ _ _)
      | (with_reducible exact LeO.refl _)
      | (with_reducible exact LeO.none _)
      | (with_reducible refine LeO.ite ?_ ?_)
      | (with_reducible refine LeO.bind ?_ (fun _ => ?_))
      | exact ih0 _ _ _ _ _ _ _ _ _ _
      | exact ih1 _ _ _ _ _ _ _ _ _ _
      | exact ih2 _ _ _ _ _ _ _ _ _ _
      | exact cutroomlaw08_awake.mono _
      | exact cutroomref07_Macroblock.mono _ _ _ _ _ _ _ _
      | exact cutroomref07_Paste.mono _ _ _ _ _ _ _ _ _ _ _ _ _ _ _ _ _
      | exact motion_Predict.mono _ _ _ _ _ _ _ _ _ _ _ _
      | exact LeO.none _
      | refine LeO.ite ?_ ?_
      | refine LeO.bind ?_ (fun _ => ?_)
theorem cutroomlaw08_MotionStill.mono : ∀ a0 a1 a2 a3 a4 a5 a6 a7 a8 k, LeO (cutroomlaw08_MotionStill.f k a0 a1 a2 a3 a4 a5 a6 a7 a8) (cutroomlaw08_MotionStill.f (k + 1) a0 a1 a2 a3 a4 a5 a6 a7 a8) := by
  intro a0 a1 a2 a3 a4 a5 a6 a7 a8 k
  obtain ⟨ih0, ih1, ih2⟩ := cutroomlaw08_MotionStill.mono_l k
  unfold cutroomlaw08_MotionStill.f
  repeat' first
      | (with_reducible exact ih0 _ _ _ _ _ _ _ _ _ _)
      | (with_reducible exact ih1 _ _ _ _ _ _ _ _ _ _)
      | (with_reducible exact ih2 _ _ _ _ _ _ _ _ _ _)
      | (with_reducible exact cutroomlaw08_awake.mono _)
      | (with_reducible exact cutroomref07_Macroblock.mono _ _ _ _ _ _ _ _)
      | (with_reducible exact cutroomref07_Paste.mono _ _ _ _ _ _ _ _ _ _ _ _ _ _ _ _ _)
      | (with_reducible exact motion_Predict.mono _ _ _ _ _ _ _ _ _ _ _ _)
      | (with_reducible exact LeO.refl _)
      | (with_reducible exact LeO.none _)
      | (with_reducible refine LeO.ite ?_ ?_)
      | (with_reducible refine LeO.bind ?_ (fun _ => ?_))
      | exact ih0 _ _ _ _ _ _ _ _ _ _
      | exact ih1 _ _ _ _ _ _ _ _ _ _
      | exact ih2 _ _ _ _ _ _ _ _ _ _
      | exact cutroomlaw08_awake.mono _
      | exact cutroomref07_Macroblock.mono _ _ _ _ _ _ _ _
      | exact cutroomref07_Paste.mono _ _ _ _ _ _ _ _ _ _ _ _ _ _ _ _ _
      | exact motion_Predict.mono _ _ _ _ _ _ _ _ _ _ _ _
      | exact LeO.none _
      | refine LeO.ite ?_ ?_
      | refine LeO.bind ?_ (fun _ => ?_)
set_option maxHeartbeats 8000000 in
set_option maxRecDepth 100000 in
theorem cutroomlaw08_MotionStill.calls (k : Nat) (a0_0 : Int) (a0_1 : Int) (A0_2 : Option Addr) (c0_2 : Nat) (l0_2 : List Int) (A0_3 : Option Addr) (c0_3 : Nat) (l0_3 : List Int) (A0_4 : Option Addr) (c0_4 : Nat) (l0_4 : List Int) (a1 : Int) (a2 : Int) (a3 : Int) (a4 : Int) (r : Bool) (w : World) (hr0_2 : Kd.C (Kd.int .u8) w A0_2 l0_2.length l0_2) (hc0_2 : l0_2.length ≤ c0_2) (hr0_3 : Kd.C (Kd.int .u8) w A0_3 l0_3.length l0_3) (hc0_3 : l0_3.length ≤ c0_3) (hr0_4 : Kd.C (Kd.int .u8) w A0_4 l0_4.length l0_4) (hc0_4 : l0_4.length ≤ c0_4) (h : cutroomlaw08_MotionStill.f k a0_0 a0_1 l0_2 l0_3 l0_4 a1 a2 a3 a4 = some r) :
    Calls Try.prog 5 #[.agg #[.int .i64 a0_0, .int .i64 a0_1, .slice A0_2 l0_2.length c0_2, .slice A0_3 l0_3.length c0_3, .slice A0_4 l0_4.length c0_4], .int .i64 a1, .int .i64 a2, .int .i64 a3, .int .i64 a4] w fun e w' => e = .returned (.bool r) ∧ Below w.heap.size w w' := by
  have hu24 := Try.underlying24
  have hu32 := Try.underlying32
  have HR0_2 := Aside0.mk hr0_2
  have HC0_2 := Aside0.mk hc0_2
  clear hr0_2 hc0_2
  have HR0_3 := Aside0.mk hr0_3
  have HC0_3 := Aside0.mk hc0_3
  clear hr0_3 hc0_3
  have HR0_4 := Aside0.mk hr0_4
  have HC0_4 := Aside0.mk hc0_4
  clear hr0_4 hc0_4
  have HB := Aside0.mk (Below.refl w.heap.size w)
  have H : ((cutroomlaw08_light.f a0_0 a0_1 l0_2 l0_3 l0_4).bind fun t264 => (if t264 = true then ((cutroomref07_Valid.f a0_0 a0_1 l0_2 l0_3 l0_4).bind fun t265 => (if t265 = true then (if a1 < 0 then (cutroomlaw08_MotionStill.j0 k a1 a2 a3 a4 true a0_0 a0_1 l0_2 l0_3 l0_4) else (if a2 < 0 then (cutroomlaw08_MotionStill.j0 k a1 a2 a3 a4 true a0_0 a0_1 l0_2 l0_3 l0_4) else (if a1 > 3 then (cutroomlaw08_MotionStill.j0 k a1 a2 a3 a4 true a0_0 a0_1 l0_2 l0_3 l0_4) else (if a2 > 3 then (cutroomlaw08_MotionStill.j0 k a1 a2 a3 a4 true a0_0 a0_1 l0_2 l0_3 l0_4) else (if (wrap64 ((wrap64 (16 * a1)) + 16)) > a0_0 then (cutroomlaw08_MotionStill.j0 k a1 a2 a3 a4 true a0_0 a0_1 l0_2 l0_3 l0_4) else (cutroomlaw08_MotionStill.j0 k a1 a2 a3 a4 (decide ((wrap64 ((wrap64 (16 * a2)) + 16)) > a0_1)) a0_0 a0_1 l0_2 l0_3 l0_4)))))) else (cutroomlaw08_MotionStill.j0 k a1 a2 a3 a4 true a0_0 a0_1 l0_2 l0_3 l0_4))) else (cutroomlaw08_MotionStill.j0 k a1 a2 a3 a4 true a0_0 a0_1 l0_2 l0_3 l0_4))) = some r := h
  clear h
  have HC6 := Aside0.mk H
  clear H
  go_enter Try.func5, Try.ntmps5
  go_upto_region 1 with (first | ((with_reducible refine gate_dst (N := 5) rfl ?_); refine box_event ?hg (N := 5) ?hd (cs := #[.int .i64 a0_0, .int .i64 a0_1, .slice A0_2 l0_2.length c0_2, .slice A0_3 l0_3.length c0_3, .slice A0_4 l0_4.length c0_4]) (t := 24) ?hr ?_; (case hd => rfl); (case hg => rfl); (case hr => first | (go_simp; done) | (go_simp; rfl)); intro gb263 hg w7 hbox hb; have n0_ := Aside0.mk (below_step (by repeat (first | (with_reducible first | exact HB.out | apply below_alloc | apply pw_below_drewN | apply below_drew1) | exact HB.out)) hb); have n1_ := Aside0.mk (hbox); have n2_ := Aside0.mk ((by rw [hg]; exact (below_size (by repeat (first | (with_reducible first | exact HB.out | apply below_alloc | apply pw_below_drewN | apply below_drew1) | exact HB.out))) : w.heap.size ≤ gb263)); have n3_ := Aside0.mk ((by rw [hg]; exact (below_size (by repeat (first | (with_reducible first | exact HB.out | apply below_alloc | apply pw_below_drewN | apply below_drew1) | exact HB.out))) : w.heap.size ≤ gb263)); clear HB; have HB := n0_; have BK263 := n1_; have GW263 := n2_; have GE263 := n3_; clear n0_ n1_ n2_ n3_; clear hb hbox hg))
  (try simp only [Act.put, List.setIfInBounds_toArray, List.set_cons_zero, List.set_cons_succ])
  go_cut [55] (fun v55 wc => ∃ (kq : Nat) (x55_5 : Bool), v55 = .bool x55_5 ∧ Aside0 (cutroomlaw08_MotionStill.j0 kq a1 a2 a3 a4 x55_5 a0_0 a0_1 l0_2 l0_3 l0_4 = some r) ∧ Aside0 (kq ≤ k) ∧ Aside0 (wc.heap[gb263]? = some (.cells #[.int .i64 a0_0, .int .i64 a0_1, (.slice A0_2 l0_2.length c0_2), (.slice A0_3 l0_3.length c0_3), (.slice A0_4 l0_4.length c0_4)] 24 (0, 0))) ∧ Aside0 (Below w.heap.size w wc))
  case first =>
    have H := HC6.out
    clear HC6
    replace H := Option.bind_eq_some_iff.mp H
    obtain ⟨t264, A80, H⟩ := H
    replace H : (if t264 = true then ((cutroomref07_Valid.f a0_0 a0_1 l0_2 l0_3 l0_4).bind fun t265 => (if t265 = true then (if a1 < 0 then (cutroomlaw08_MotionStill.j0 k a1 a2 a3 a4 true a0_0 a0_1 l0_2 l0_3 l0_4) else (if a2 < 0 then (cutroomlaw08_MotionStill.j0 k a1 a2 a3 a4 true a0_0 a0_1 l0_2 l0_3 l0_4) else (if a1 > 3 then (cutroomlaw08_MotionStill.j0 k a1 a2 a3 a4 true a0_0 a0_1 l0_2 l0_3 l0_4) else (if a2 > 3 then (cutroomlaw08_MotionStill.j0 k a1 a2 a3 a4 true a0_0 a0_1 l0_2 l0_3 l0_4) else (if (wrap64 ((wrap64 (16 * a1)) + 16)) > a0_0 then (cutroomlaw08_MotionStill.j0 k a1 a2 a3 a4 true a0_0 a0_1 l0_2 l0_3 l0_4) else (cutroomlaw08_MotionStill.j0 k a1 a2 a3 a4 (decide ((wrap64 ((wrap64 (16 * a2)) + 16)) > a0_1)) a0_0 a0_1 l0_2 l0_3 l0_4)))))) else (cutroomlaw08_MotionStill.j0 k a1 a2 a3 a4 true a0_0 a0_1 l0_2 l0_3 l0_4))) else (cutroomlaw08_MotionStill.j0 k a1 a2 a3 a4 true a0_0 a0_1 l0_2 l0_3 l0_4)) = some r := H
    have A8 := Aside0.mk A80
    clear A80
    by_cases c9 : t264 = true
    · subst c9
      have H1 : ((cutroomref07_Valid.f a0_0 a0_1 l0_2 l0_3 l0_4).bind fun t265 => (if t265 = true then (if a1 < 0 then (cutroomlaw08_MotionStill.j0 k a1 a2 a3 a4 true a0_0 a0_1 l0_2 l0_3 l0_4) else (if a2 < 0 then (cutroomlaw08_MotionStill.j0 k a1 a2 a3 a4 true a0_0 a0_1 l0_2 l0_3 l0_4) else (if a1 > 3 then (cutroomlaw08_MotionStill.j0 k a1 a2 a3 a4 true a0_0 a0_1 l0_2 l0_3 l0_4) else (if a2 > 3 then (cutroomlaw08_MotionStill.j0 k a1 a2 a3 a4 true a0_0 a0_1 l0_2 l0_3 l0_4) else (if (wrap64 ((wrap64 (16 * a1)) + 16)) > a0_0 then (cutroomlaw08_MotionStill.j0 k a1 a2 a3 a4 true a0_0 a0_1 l0_2 l0_3 l0_4) else (cutroomlaw08_MotionStill.j0 k a1 a2 a3 a4 (decide ((wrap64 ((wrap64 (16 * a2)) + 16)) > a0_1)) a0_0 a0_1 l0_2 l0_3 l0_4)))))) else (cutroomlaw08_MotionStill.j0 k a1 a2 a3 a4 true a0_0 a0_1 l0_2 l0_3 l0_4))) = some r := by rw [if_pos rfl] at H; exact H
      clear H
      have H := H1
      clear H1
      replace H := Option.bind_eq_some_iff.mp H
      obtain ⟨t265, A100, H⟩ := H
      replace H : (if t265 = true then (if a1 < 0 then (cutroomlaw08_MotionStill.j0 k a1 a2 a3 a4 true a0_0 a0_1 l0_2 l0_3 l0_4) else (if a2 < 0 then (cutroomlaw08_MotionStill.j0 k a1 a2 a3 a4 true a0_0 a0_1 l0_2 l0_3 l0_4) else (if a1 > 3 then (cutroomlaw08_MotionStill.j0 k a1 a2 a3 a4 true a0_0 a0_1 l0_2 l0_3 l0_4) else (if a2 > 3 then (cutroomlaw08_MotionStill.j0 k a1 a2 a3 a4 true a0_0 a0_1 l0_2 l0_3 l0_4) else (if (wrap64 ((wrap64 (16 * a1)) + 16)) > a0_0 then (cutroomlaw08_MotionStill.j0 k a1 a2 a3 a4 true a0_0 a0_1 l0_2 l0_3 l0_4) else (cutroomlaw08_MotionStill.j0 k a1 a2 a3 a4 (decide ((wrap64 ((wrap64 (16 * a2)) + 16)) > a0_1)) a0_0 a0_1 l0_2 l0_3 l0_4)))))) else (cutroomlaw08_MotionStill.j0 k a1 a2 a3 a4 true a0_0 a0_1 l0_2 l0_3 l0_4)) = some r := H
      have A10 := Aside0.mk A100
      clear A100
      by_cases c11 : t265 = true
      · subst c11
        have H1 : (if a1 < 0 then (cutroomlaw08_MotionStill.j0 k a1 a2 a3 a4 true a0_0 a0_1 l0_2 l0_3 l0_4) else (if a2 < 0 then (cutroomlaw08_MotionStill.j0 k a1 a2 a3 a4 true a0_0 a0_1 l0_2 l0_3 l0_4) else (if a1 > 3 then (cutroomlaw08_MotionStill.j0 k a1 a2 a3 a4 true a0_0 a0_1 l0_2 l0_3 l0_4) else (if a2 > 3 then (cutroomlaw08_MotionStill.j0 k a1 a2 a3 a4 true a0_0 a0_1 l0_2 l0_3 l0_4) else (if (wrap64 ((wrap64 (16 * a1)) + 16)) > a0_0 then (cutroomlaw08_MotionStill.j0 k a1 a2 a3 a4 true a0_0 a0_1 l0_2 l0_3 l0_4) else (cutroomlaw08_MotionStill.j0 k a1 a2 a3 a4 (decide ((wrap64 ((wrap64 (16 * a2)) + 16)) > a0_1)) a0_0 a0_1 l0_2 l0_3 l0_4)))))) = some r := by rw [if_pos rfl] at H; exact H
        clear H
        have H := H1
        clear H1
        by_cases c12 : a1 < 0
        · rw [if_pos c12] at H
          have c12b0 : decide (a1 < 0) = true := decide_eq_true c12
          clear c12
          (first | rw [c12b0] | (simp only [i64_w, i32_w]; rw [c12b0]) | skip)
          have H' := Aside0.mk H
          clear H
          have hcz13_0 : w7.cell? ⟨gb263, 0, none⟩ = some (.int .i64 a0_0) := (blk_cell BK263.out 0).trans rfl
          have hcz13_1 : w7.cell? ⟨gb263, 1, none⟩ = some (.int .i64 a0_1) := (blk_cell BK263.out 1).trans rfl
          have hcz13_2 : w7.cell? ⟨gb263, 2, none⟩ = some (.slice A0_2 l0_2.length c0_2) := (blk_cell BK263.out 2).trans rfl
          have hcz13_3 : w7.cell? ⟨gb263, 3, none⟩ = some (.slice A0_3 l0_3.length c0_3) := (blk_cell BK263.out 3).trans rfl
          have hcz13_4 : w7.cell? ⟨gb263, 4, none⟩ = some (.slice A0_4 l0_4.length c0_4) := (blk_cell BK263.out 4).trans rfl
          have hfz13_0 := blk_frozen BK263.out 0
          have hfz13_1 := blk_frozen BK263.out 1
          have hfz13_2 := blk_frozen BK263.out 2
          have hfz13_3 := blk_frozen BK263.out 3
          have hfz13_4 := blk_frozen BK263.out 4
          go_wp2_with (first | ((with_reducible refine gate_callee (f := 10) rfl ?_); refine goesL_ (some 17) rfl rfl Try.func10 (by kernel_rfl) rfl #[.agg #[.int .i64 a0_0, .int .i64 a0_1, .slice A0_2 l0_2.length c0_2, .slice A0_3 l0_3.length c0_3, .slice A0_4 l0_4.length c0_4]] rfl (by (try simp only [List.map_toArray, List.map_cons, List.map_nil]); first | done | rfl | (simp only [List.length_drop, List.length_take]; rfl)) ?_; (with_reducible refine (cutroomlaw08_light.calls a0_0 a0_1 _ _ l0_2 _ _ l0_3 _ _ l0_4 true _ ?side1 ?side2 ?side3 ?side4 ?side5 ?side6 A8.out).mono ?_); (case side1 => repeat (first | exact (Kd.C_below HR0_2.out HB.out) | (with_reducible refine Kd.C_alloc ?_ _) | (with_reducible refine Kd.C_drewN ?_ _) | (with_reducible refine Kd.C_drew ?_))); (case side2 => exact HC0_2.out); (case side3 => repeat (first | exact (Kd.C_below HR0_3.out HB.out) | (with_reducible refine Kd.C_alloc ?_ _) | (with_reducible refine Kd.C_drewN ?_ _) | (with_reducible refine Kd.C_drew ?_))); (case side4 => exact HC0_3.out); (case side5 => repeat (first | exact (Kd.C_below HR0_4.out HB.out) | (with_reducible refine Kd.C_alloc ?_ _) | (with_reducible refine Kd.C_drewN ?_ _) | (with_reducible refine Kd.C_drew ?_))); (case side6 => exact HC0_4.out); rintro e w14 ⟨rfl, hb⟩; refine ⟨_, rfl, ?_⟩; have n0_ := Aside0.mk (blk_below (g := gb263) (o := .cells #[.int .i64 a0_0, .int .i64 a0_1, .slice A0_2 l0_2.length c0_2, .slice A0_3 l0_3.length c0_3, .slice A0_4 l0_4.length c0_4] 24 (0, 0)) (by (with_reducible repeat (first | refine blk_drewN ?_ _ | refine blk_drew ?_ | refine blk_alloc ?_ _)); exact BK263.out) hb); have n1_ := Aside0.mk (below_step (by repeat (first | (with_reducible first | exact HB.out | apply below_alloc | apply pw_below_drewN | apply below_drew1 | refine below_set ?_ GE263.out) | exact HB.out)) hb); clear BK263; clear HB; have BK263 := n0_; have HB := n1_; clear n0_ n1_; (try clear hb); (try clear hb2); (try clear hk); (try clear hi); have hcz15_0 : w14.cell? ⟨gb263, 0, none⟩ = some (.int .i64 a0_0) := (blk_cell BK263.out 0).trans rfl; have hcz15_1 : w14.cell? ⟨gb263, 1, none⟩ = some (.int .i64 a0_1) := (blk_cell BK263.out 1).trans rfl; have hcz15_2 : w14.cell? ⟨gb263, 2, none⟩ = some (.slice A0_2 l0_2.length c0_2) := (blk_cell BK263.out 2).trans rfl; have hcz15_3 : w14.cell? ⟨gb263, 3, none⟩ = some (.slice A0_3 l0_3.length c0_3) := (blk_cell BK263.out 3).trans rfl; have hcz15_4 : w14.cell? ⟨gb263, 4, none⟩ = some (.slice A0_4 l0_4.length c0_4) := (blk_cell BK263.out 4).trans rfl; have hfz15_0 := blk_frozen BK263.out 0; have hfz15_1 := blk_frozen BK263.out 1; have hfz15_2 := blk_frozen BK263.out 2; have hfz15_3 := blk_frozen BK263.out 3; have hfz15_4 := blk_frozen BK263.out 4) | (go_at_call 17; (with_reducible refine (cutroomref07_Valid.calls a0_0 a0_1 _ _ l0_2 _ _ l0_3 _ _ l0_4 true _ ?side1 ?side2 ?side3 ?side4 ?side5 ?side6 A10.out).mono ?_); (case side1 => repeat (first | exact (Kd.C_below HR0_2.out HB.out) | (with_reducible refine Kd.C_alloc ?_ _) | (with_reducible refine Kd.C_drewN ?_ _) | (with_reducible refine Kd.C_drew ?_))); (case side2 => exact HC0_2.out); (case side3 => repeat (first | exact (Kd.C_below HR0_3.out HB.out) | (with_reducible refine Kd.C_alloc ?_ _) | (with_reducible refine Kd.C_drewN ?_ _) | (with_reducible refine Kd.C_drew ?_))); (case side4 => exact HC0_3.out); (case side5 => repeat (first | exact (Kd.C_below HR0_4.out HB.out) | (with_reducible refine Kd.C_alloc ?_ _) | (with_reducible refine Kd.C_drewN ?_ _) | (with_reducible refine Kd.C_drew ?_))); (case side6 => exact HC0_4.out); rintro e w16 ⟨rfl, hb⟩; have n0_ := Aside0.mk (blk_below (g := gb263) (o := .cells #[.int .i64 a0_0, .int .i64 a0_1, .slice A0_2 l0_2.length c0_2, .slice A0_3 l0_3.length c0_3, .slice A0_4 l0_4.length c0_4] 24 (0, 0)) (by (with_reducible repeat (first | refine blk_drewN ?_ _ | refine blk_drew ?_ | refine blk_alloc ?_ _)); exact BK263.out) hb); have n1_ := Aside0.mk (below_step (by repeat (first | (with_reducible first | exact HB.out | apply below_alloc | apply pw_below_drewN | apply below_drew1 | refine below_set ?_ GE263.out) | exact HB.out)) hb); clear BK263; clear HB; have BK263 := n0_; have HB := n1_; clear n0_ n1_; (try clear hb); (try clear hb2); (try clear hk); (try clear hi)))
          go_meet
          case rel => exact ⟨_, (true), (by first | rfl | (simp; done) | (simp [*]; done)), H', ⟨by first | omega | exact Nat.le_refl _⟩, ⟨by (with_reducible repeat (first | refine blk_drewN ?_ _ | refine blk_drew ?_ | refine blk_alloc ?_ _)); exact BK263.out⟩, ⟨by repeat (first | (with_reducible first | exact HB.out | apply below_alloc | apply pw_below_drewN | apply below_drew1 | refine below_set ?_ GE263.out) | exact HB.out)⟩⟩
        · rw [if_neg c12] at H
          have c12b0 : decide (a1 < 0) = false := decide_eq_false c12
          clear c12
          (first | rw [c12b0] | (simp only [i64_w, i32_w]; rw [c12b0]) | skip)
          by_cases c17 : a2 < 0
          · rw [if_pos c17] at H
            have c17b0 : decide (a2 < 0) = true := decide_eq_true c17
            clear c17
            have H' := Aside0.mk H
            clear H
            have hcz18_0 : w7.cell? ⟨gb263, 0, none⟩ = some (.int .i64 a0_0) := (blk_cell BK263.out 0).trans rfl
            have hcz18_1 : w7.cell? ⟨gb263, 1, none⟩ = some (.int .i64 a0_1) := (blk_cell BK263.out 1).trans rfl
            have hcz18_2 : w7.cell? ⟨gb263, 2, none⟩ = some (.slice A0_2 l0_2.length c0_2) := (blk_cell BK263.out 2).trans rfl
            have hcz18_3 : w7.cell? ⟨gb263, 3, none⟩ = some (.slice A0_3 l0_3.length c0_3) := (blk_cell BK263.out 3).trans rfl
            have hcz18_4 : w7.cell? ⟨gb263, 4, none⟩ = some (.slice A0_4 l0_4.length c0_4) := (blk_cell BK263.out 4).trans rfl
            have hfz18_0 := blk_frozen BK263.out 0
            have hfz18_1 := blk_frozen BK263.out 1
            have hfz18_2 := blk_frozen BK263.out 2
            have hfz18_3 := blk_frozen BK263.out 3
            have hfz18_4 := blk_frozen BK263.out 4
            go_wp2_with (first | ((with_reducible refine gate_callee (f := 10) rfl ?_); refine goesL_ (some 17) rfl rfl Try.func10 (by kernel_rfl) rfl #[.agg #[.int .i64 a0_0, .int .i64 a0_1, .slice A0_2 l0_2.length c0_2, .slice A0_3 l0_3.length c0_3, .slice A0_4 l0_4.length c0_4]] rfl (by (try simp only [List.map_toArray, List.map_cons, List.map_nil]); first | done | rfl | (simp only [List.length_drop, List.length_take]; rfl)) ?_; (with_reducible refine (cutroomlaw08_light.calls a0_0 a0_1 _ _ l0_2 _ _ l0_3 _ _ l0_4 true _ ?side1 ?side2 ?side3 ?side4 ?side5 ?side6 A8.out).mono ?_); (case side1 => repeat (first | exact (Kd.C_below HR0_2.out HB.out) | (with_reducible refine Kd.C_alloc ?_ _) | (with_reducible refine Kd.C_drewN ?_ _) | (with_reducible refine Kd.C_drew ?_))); (case side2 => exact HC0_2.out); (case side3 => repeat (first | exact (Kd.C_below HR0_3.out HB.out) | (with_reducible refine Kd.C_alloc ?_ _) | (with_reducible refine Kd.C_drewN ?_ _) | (with_reducible refine Kd.C_drew ?_))); (case side4 => exact HC0_3.out); (case side5 => repeat (first | exact (Kd.C_below HR0_4.out HB.out) | (with_reducible refine Kd.C_alloc ?_ _) | (with_reducible refine Kd.C_drewN ?_ _) | (with_reducible refine Kd.C_drew ?_))); (case side6 => exact HC0_4.out); rintro e w19 ⟨rfl, hb⟩; refine ⟨_, rfl, ?_⟩; have n0_ := Aside0.mk (blk_below (g := gb263) (o := .cells #[.int .i64 a0_0, .int .i64 a0_1, .slice A0_2 l0_2.length c0_2, .slice A0_3 l0_3.length c0_3, .slice A0_4 l0_4.length c0_4] 24 (0, 0)) (by (with_reducible repeat (first | refine blk_drewN ?_ _ | refine blk_drew ?_ | refine blk_alloc ?_ _)); exact BK263.out) hb); have n1_ := Aside0.mk (below_step (by repeat (first | (with_reducible first | exact HB.out | apply below_alloc | apply pw_below_drewN | apply below_drew1 | refine below_set ?_ GE263.out) | exact HB.out)) hb); clear BK263; clear HB; have BK263 := n0_; have HB := n1_; clear n0_ n1_; (try clear hb); (try clear hb2); (try clear hk); (try clear hi); have hcz20_0 : w19.cell? ⟨gb263, 0, none⟩ = some (.int .i64 a0_0) := (blk_cell BK263.out 0).trans rfl; have hcz20_1 : w19.cell? ⟨gb263, 1, none⟩ = some (.int .i64 a0_1) := (blk_cell BK263.out 1).trans rfl; have hcz20_2 : w19.cell? ⟨gb263, 2, none⟩ = some (.slice A0_2 l0_2.length c0_2) := (blk_cell BK263.out 2).trans rfl; have hcz20_3 : w19.cell? ⟨gb263, 3, none⟩ = some (.slice A0_3 l0_3.length c0_3) := (blk_cell BK263.out 3).trans rfl; have hcz20_4 : w19.cell? ⟨gb263, 4, none⟩ = some (.slice A0_4 l0_4.length c0_4) := (blk_cell BK263.out 4).trans rfl; have hfz20_0 := blk_frozen BK263.out 0; have hfz20_1 := blk_frozen BK263.out 1; have hfz20_2 := blk_frozen BK263.out 2; have hfz20_3 := blk_frozen BK263.out 3; have hfz20_4 := blk_frozen BK263.out 4) | (go_at_call 17; (with_reducible refine (cutroomref07_Valid.calls a0_0 a0_1 _ _ l0_2 _ _ l0_3 _ _ l0_4 true _ ?side1 ?side2 ?side3 ?side4 ?side5 ?side6 A10.out).mono ?_); (case side1 => repeat (first | exact (Kd.C_below HR0_2.out HB.out) | (with_reducible refine Kd.C_alloc ?_ _) | (with_reducible refine Kd.C_drewN ?_ _) | (with_reducible refine Kd.C_drew ?_))); (case side2 => exact HC0_2.out); (case side3 => repeat (first | exact (Kd.C_below HR0_3.out HB.out) | (with_reducible refine Kd.C_alloc ?_ _) | (with_reducible refine Kd.C_drewN ?_ _) | (with_reducible refine Kd.C_drew ?_))); (case side4 => exact HC0_3.out); (case side5 => repeat (first | exact (Kd.C_below HR0_4.out HB.out) | (with_reducible refine Kd.C_alloc ?_ _) | (with_reducible refine Kd.C_drewN ?_ _) | (with_reducible refine Kd.C_drew ?_))); (case side6 => exact HC0_4.out); rintro e w21 ⟨rfl, hb⟩; have n0_ := Aside0.mk (blk_below (g := gb263) (o := .cells #[.int .i64 a0_0, .int .i64 a0_1, .slice A0_2 l0_2.length c0_2, .slice A0_3 l0_3.length c0_3, .slice A0_4 l0_4.length c0_4] 24 (0, 0)) (by (with_reducible repeat (first | refine blk_drewN ?_ _ | refine blk_drew ?_ | refine blk_alloc ?_ _)); exact BK263.out) hb); have n1_ := Aside0.mk (below_step (by repeat (first | (with_reducible first | exact HB.out | apply below_alloc | apply pw_below_drewN | apply below_drew1 | refine below_set ?_ GE263.out) | exact HB.out)) hb); clear BK263; clear HB; have BK263 := n0_; have HB := n1_; clear n0_ n1_; (try clear hb); (try clear hb2); (try clear hk); (try clear hi)))
            go_meet
            case rel => exact ⟨_, (true), (by first | rfl | (simp; done) | (simp [*]; done)), H', ⟨by first | omega | exact Nat.le_refl _⟩, ⟨by (with_reducible repeat (first | refine blk_drewN ?_ _ | refine blk_drew ?_ | refine blk_alloc ?_ _)); exact BK263.out⟩, ⟨by repeat (first | (with_reducible first | exact HB.out | apply below_alloc | apply pw_below_drewN | apply below_drew1 | refine below_set ?_ GE263.out) | exact HB.out)⟩⟩
          · rw [if_neg c17] at H
            have c17b0 : decide (a2 < 0) = false := decide_eq_false c17
            clear c17
            by_cases c22 : a1 > 3
            · rw [if_pos c22] at H
              have c22b0 : decide (3 < a1) = true := decide_eq_true c22
              clear c22
              have H' := Aside0.mk H
              clear H
              have hcz23_0 : w7.cell? ⟨gb263, 0, none⟩ = some (.int .i64 a0_0) := (blk_cell BK263.out 0).trans rfl
              have hcz23_1 : w7.cell? ⟨gb263, 1, none⟩ = some (.int .i64 a0_1) := (blk_cell BK263.out 1).trans rfl
              have hcz23_2 : w7.cell? ⟨gb263, 2, none⟩ = some (.slice A0_2 l0_2.length c0_2) := (blk_cell BK263.out 2).trans rfl
              have hcz23_3 : w7.cell? ⟨gb263, 3, none⟩ = some (.slice A0_3 l0_3.length c0_3) := (blk_cell BK263.out 3).trans rfl
              have hcz23_4 : w7.cell? ⟨gb263, 4, none⟩ = some (.slice A0_4 l0_4.length c0_4) := (blk_cell BK263.out 4).trans rfl
              have hfz23_0 := blk_frozen BK263.out 0
              have hfz23_1 := blk_frozen BK263.out 1
              have hfz23_2 := blk_frozen BK263.out 2
              have hfz23_3 := blk_frozen BK263.out 3
              have hfz23_4 := blk_frozen BK263.out 4
              go_wp2_with (first | ((with_reducible refine gate_callee (f := 10) rfl ?_); refine goesL_ (some 17) rfl rfl Try.func10 (by kernel_rfl) rfl #[.agg #[.int .i64 a0_0, .int .i64 a0_1, .slice A0_2 l0_2.length c0_2, .slice A0_3 l0_3.length c0_3, .slice A0_4 l0_4.length c0_4]] rfl (by (try simp only [List.map_toArray, List.map_cons, List.map_nil]); first | done | rfl | (simp only [List.length_drop, List.length_take]; rfl)) ?_; (with_reducible refine (cutroomlaw08_light.calls a0_0 a0_1 _ _ l0_2 _ _ l0_3 _ _ l0_4 true _ ?side1 ?side2 ?side3 ?side4 ?side5 ?side6 A8.out).mono ?_); (case side1 => repeat (first | exact (Kd.C_below HR0_2.out HB.out) | (with_reducible refine Kd.C_alloc ?_ _) | (with_reducible refine Kd.C_drewN ?_ _) | (with_reducible refine Kd.C_drew ?_))); (case side2 => exact HC0_2.out); (case side3 => repeat (first | exact (Kd.C_below HR0_3.out HB.out) | (with_reducible refine Kd.C_alloc ?_ _) | (with_reducible refine Kd.C_drewN ?_ _) | (with_reducible refine Kd.C_drew ?_))); (case side4 => exact HC0_3.out); (case side5 => repeat (first | exact (Kd.C_below HR0_4.out HB.out) | (with_reducible refine Kd.C_alloc ?_ _) | (with_reducible refine Kd.C_drewN ?_ _) | (with_reducible refine Kd.C_drew ?_))); (case side6 => exact HC0_4.out); rintro e w24 ⟨rfl, hb⟩; refine ⟨_, rfl, ?_⟩; have n0_ := Aside0.mk (blk_below (g := gb263) (o := .cells #[.int .i64 a0_0, .int .i64 a0_1, .slice A0_2 l0_2.length c0_2, .slice A0_3 l0_3.length c0_3, .slice A0_4 l0_4.length c0_4] 24 (0, 0)) (by (with_reducible repeat (first | refine blk_drewN ?_ _ | refine blk_drew ?_ | refine blk_alloc ?_ _)); exact BK263.out) hb); have n1_ := Aside0.mk (below_step (by repeat (first | (with_reducible first | exact HB.out | apply below_alloc | apply pw_below_drewN | apply below_drew1 | refine below_set ?_ GE263.out) | exact HB.out)) hb); clear BK263; clear HB; have BK263 := n0_; have HB := n1_; clear n0_ n1_; (try clear hb); (try clear hb2); (try clear hk); (try clear hi); have hcz25_0 : w24.cell? ⟨gb263, 0, none⟩ = some (.int .i64 a0_0) := (blk_cell BK263.out 0).trans rfl; have hcz25_1 : w24.cell? ⟨gb263, 1, none⟩ = some (.int .i64 a0_1) := (blk_cell BK263.out 1).trans rfl; have hcz25_2 : w24.cell? ⟨gb263, 2, none⟩ = some (.slice A0_2 l0_2.length c0_2) := (blk_cell BK263.out 2).trans rfl; have hcz25_3 : w24.cell? ⟨gb263, 3, none⟩ = some (.slice A0_3 l0_3.length c0_3) := (blk_cell BK263.out 3).trans rfl; have hcz25_4 : w24.cell? ⟨gb263, 4, none⟩ = some (.slice A0_4 l0_4.length c0_4) := (blk_cell BK263.out 4).trans rfl; have hfz25_0 := blk_frozen BK263.out 0; have hfz25_1 := blk_frozen BK263.out 1; have hfz25_2 := blk_frozen BK263.out 2; have hfz25_3 := blk_frozen BK263.out 3; have hfz25_4 := blk_frozen BK263.out 4) | (go_at_call 17; (with_reducible refine (cutroomref07_Valid.calls a0_0 a0_1 _ _ l0_2 _ _ l0_3 _ _ l0_4 true _ ?side1 ?side2 ?side3 ?side4 ?side5 ?side6 A10.out).mono ?_); (case side1 => repeat (first | exact (Kd.C_below HR0_2.out HB.out) | (with_reducible refine Kd.C_alloc ?_ _) | (with_reducible refine Kd.C_drewN ?_ _) | (with_reducible refine Kd.C_drew ?_))); (case side2 => exact HC0_2.out); (case side3 => repeat (first | exact (Kd.C_below HR0_3.out HB.out) | (with_reducible refine Kd.C_alloc ?_ _) | (with_reducible refine Kd.C_drewN ?_ _) | (with_reducible refine Kd.C_drew ?_))); (case side4 => exact HC0_3.out); (case side5 => repeat (first | exact (Kd.C_below HR0_4.out HB.out) | (with_reducible refine Kd.C_alloc ?_ _) | (with_reducible refine Kd.C_drewN ?_ _) | (with_reducible refine Kd.C_drew ?_))); (case side6 => exact HC0_4.out); rintro e w26 ⟨rfl, hb⟩; have n0_ := Aside0.mk (blk_below (g := gb263) (o := .cells #[.int .i64 a0_0, .int .i64 a0_1, .slice A0_2 l0_2.length c0_2, .slice A0_3 l0_3.length c0_3, .slice A0_4 l0_4.length c0_4] 24 (0, 0)) (by (with_reducible repeat (first | refine blk_drewN ?_ _ | refine blk_drew ?_ | refine blk_alloc ?_ _)); exact BK263.out) hb); have n1_ := Aside0.mk (below_step (by repeat (first | (with_reducible first | exact HB.out | apply below_alloc | apply pw_below_drewN | apply below_drew1 | refine below_set ?_ GE263.out) | exact HB.out)) hb); clear BK263; clear HB; have BK263 := n0_; have HB := n1_; clear n0_ n1_; (try clear hb); (try clear hb2); (try clear hk); (try clear hi)))
              go_meet
              case rel => exact ⟨_, (true), (by first | rfl | (simp; done) | (simp [*]; done)), H', ⟨by first | omega | exact Nat.le_refl _⟩, ⟨by (with_reducible repeat (first | refine blk_drewN ?_ _ | refine blk_drew ?_ | refine blk_alloc ?_ _)); exact BK263.out⟩, ⟨by repeat (first | (with_reducible first | exact HB.out | apply below_alloc | apply pw_below_drewN | apply below_drew1 | refine below_set ?_ GE263.out) | exact HB.out)⟩⟩
            · rw [if_neg c22] at H
              have c22b0 : decide (3 < a1) = false := decide_eq_false c22
              clear c22
              by_cases c27 : a2 > 3
              · rw [if_pos c27] at H
                have c27b0 : decide (3 < a2) = true := decide_eq_true c27
                clear c27
                have H' := Aside0.mk H
                clear H
                have hcz28_0 : w7.cell? ⟨gb263, 0, none⟩ = some (.int .i64 a0_0) := (blk_cell BK263.out 0).trans rfl
                have hcz28_1 : w7.cell? ⟨gb263, 1, none⟩ = some (.int .i64 a0_1) := (blk_cell BK263.out 1).trans rfl
                have hcz28_2 : w7.cell? ⟨gb263, 2, none⟩ = some (.slice A0_2 l0_2.length c0_2) := (blk_cell BK263.out 2).trans rfl
                have hcz28_3 : w7.cell? ⟨gb263, 3, none⟩ = some (.slice A0_3 l0_3.length c0_3) := (blk_cell BK263.out 3).trans rfl
                have hcz28_4 : w7.cell? ⟨gb263, 4, none⟩ = some (.slice A0_4 l0_4.length c0_4) := (blk_cell BK263.out 4).trans rfl
                have hfz28_0 := blk_frozen BK263.out 0
                have hfz28_1 := blk_frozen BK263.out 1
                have hfz28_2 := blk_frozen BK263.out 2
                have hfz28_3 := blk_frozen BK263.out 3
                have hfz28_4 := blk_frozen BK263.out 4
                go_wp2_with (first | ((with_reducible refine gate_callee (f := 10) rfl ?_); refine goesL_ (some 17) rfl rfl Try.func10 (by kernel_rfl) rfl #[.agg #[.int .i64 a0_0, .int .i64 a0_1, .slice A0_2 l0_2.length c0_2, .slice A0_3 l0_3.length c0_3, .slice A0_4 l0_4.length c0_4]] rfl (by (try simp only [List.map_toArray, List.map_cons, List.map_nil]); first | done | rfl | (simp only [List.length_drop, List.length_take]; rfl)) ?_; (with_reducible refine (cutroomlaw08_light.calls a0_0 a0_1 _ _ l0_2 _ _ l0_3 _ _ l0_4 true _ ?side1 ?side2 ?side3 ?side4 ?side5 ?side6 A8.out).mono ?_); (case side1 => repeat (first | exact (Kd.C_below HR0_2.out HB.out) | (with_reducible refine Kd.C_alloc ?_ _) | (with_reducible refine Kd.C_drewN ?_ _) | (with_reducible refine Kd.C_drew ?_))); (case side2 => exact HC0_2.out); (case side3 => repeat (first | exact (Kd.C_below HR0_3.out HB.out) | (with_reducible refine Kd.C_alloc ?_ _) | (with_reducible refine Kd.C_drewN ?_ _) | (with_reducible refine Kd.C_drew ?_))); (case side4 => exact HC0_3.out); (case side5 => repeat (first | exact (Kd.C_below HR0_4.out HB.out) | (with_reducible refine Kd.C_alloc ?_ _) | (with_reducible refine Kd.C_drewN ?_ _) | (with_reducible refine Kd.C_drew ?_))); (case side6 => exact HC0_4.out); rintro e w29 ⟨rfl, hb⟩; refine ⟨_, rfl, ?_⟩; have n0_ := Aside0.mk (blk_below (g := gb263) (o := .cells #[.int .i64 a0_0, .int .i64 a0_1, .slice A0_2 l0_2.length c0_2, .slice A0_3 l0_3.length c0_3, .slice A0_4 l0_4.length c0_4] 24 (0, 0)) (by (with_reducible repeat (first | refine blk_drewN ?_ _ | refine blk_drew ?_ | refine blk_alloc ?_ _)); exact BK263.out) hb); have n1_ := Aside0.mk (below_step (by repeat (first | (with_reducible first | exact HB.out | apply below_alloc | apply pw_below_drewN | apply below_drew1 | refine below_set ?_ GE263.out) | exact HB.out)) hb); clear BK263; clear HB; have BK263 := n0_; have HB := n1_; clear n0_ n1_; (try clear hb); (try clear hb2); (try clear hk); (try clear hi); have hcz30_0 : w29.cell? ⟨gb263, 0, none⟩ = some (.int .i64 a0_0) := (blk_cell BK263.out 0).trans rfl; have hcz30_1 : w29.cell? ⟨gb263, 1, none⟩ = some (.int .i64 a0_1) := (blk_cell BK263.out 1).trans rfl; have hcz30_2 : w29.cell? ⟨gb263, 2, none⟩ = some (.slice A0_2 l0_2.length c0_2) := (blk_cell BK263.out 2).trans rfl; have hcz30_3 : w29.cell? ⟨gb263, 3, none⟩ = some (.slice A0_3 l0_3.length c0_3) := (blk_cell BK263.out 3).trans rfl; have hcz30_4 : w29.cell? ⟨gb263, 4, none⟩ = some (.slice A0_4 l0_4.length c0_4) := (blk_cell BK263.out 4).trans rfl; have hfz30_0 := blk_frozen BK263.out 0; have hfz30_1 := blk_frozen BK263.out 1; have hfz30_2 := blk_frozen BK263.out 2; have hfz30_3 := blk_frozen BK263.out 3; have hfz30_4 := blk_frozen BK263.out 4) | (go_at_call 17; (with_reducible refine (cutroomref07_Valid.calls a0_0 a0_1 _ _ l0_2 _ _ l0_3 _ _ l0_4 true _ ?side1 ?side2 ?side3 ?side4 ?side5 ?side6 A10.out).mono ?_); (case side1 => repeat (first | exact (Kd.C_below HR0_2.out HB.out) | (with_reducible refine Kd.C_alloc ?_ _) | (with_reducible refine Kd.C_drewN ?_ _) | (with_reducible refine Kd.C_drew ?_))); (case side2 => exact HC0_2.out); (case side3 => repeat (first | exact (Kd.C_below HR0_3.out HB.out) | (with_reducible refine Kd.C_alloc ?_ _) | (with_reducible refine Kd.C_drewN ?_ _) | (with_reducible refine Kd.C_drew ?_))); (case side4 => exact HC0_3.out); (case side5 => repeat (first | exact (Kd.C_below HR0_4.out HB.out) | (with_reducible refine Kd.C_alloc ?_ _) | (with_reducible refine Kd.C_drewN ?_ _) | (with_reducible refine Kd.C_drew ?_))); (case side6 => exact HC0_4.out); rintro e w31 ⟨rfl, hb⟩; have n0_ := Aside0.mk (blk_below (g := gb263) (o := .cells #[.int .i64 a0_0, .int .i64 a0_1, .slice A0_2 l0_2.length c0_2, .slice A0_3 l0_3.length c0_3, .slice A0_4 l0_4.length c0_4] 24 (0, 0)) (by (with_reducible repeat (first | refine blk_drewN ?_ _ | refine blk_drew ?_ | refine blk_alloc ?_ _)); exact BK263.out) hb); have n1_ := Aside0.mk (below_step (by repeat (first | (with_reducible first | exact HB.out | apply below_alloc | apply pw_below_drewN | apply below_drew1 | refine below_set ?_ GE263.out) | exact HB.out)) hb); clear BK263; clear HB; have BK263 := n0_; have HB := n1_; clear n0_ n1_; (try clear hb); (try clear hb2); (try clear hk); (try clear hi)))
                go_meet
                case rel => exact ⟨_, (true), (by first | rfl | (simp; done) | (simp [*]; done)), H', ⟨by first | omega | exact Nat.le_refl _⟩, ⟨by (with_reducible repeat (first | refine blk_drewN ?_ _ | refine blk_drew ?_ | refine blk_alloc ?_ _)); exact BK263.out⟩, ⟨by repeat (first | (with_reducible first | exact HB.out | apply below_alloc | apply pw_below_drewN | apply below_drew1 | refine below_set ?_ GE263.out) | exact HB.out)⟩⟩
              · rw [if_neg c27] at H
                have c27b0 : decide (3 < a2) = false := decide_eq_false c27
                clear c27
                by_cases c32 : (wrap64 ((wrap64 (16 * a1)) + 16)) > a0_0
                · rw [if_pos c32] at H
                  have c32b0 : decide (a0_0 < (wrap64 ((wrap64 (16 * a1)) + 16))) = true := decide_eq_true c32
                  clear c32
                  have H' := Aside0.mk H
                  clear H
                  have hcz33_0 : w7.cell? ⟨gb263, 0, none⟩ = some (.int .i64 a0_0) := (blk_cell BK263.out 0).trans rfl
                  have hcz33_1 : w7.cell? ⟨gb263, 1, none⟩ = some (.int .i64 a0_1) := (blk_cell BK263.out 1).trans rfl
                  have hcz33_2 : w7.cell? ⟨gb263, 2, none⟩ = some (.slice A0_2 l0_2.length c0_2) := (blk_cell BK263.out 2).trans rfl
                  have hcz33_3 : w7.cell? ⟨gb263, 3, none⟩ = some (.slice A0_3 l0_3.length c0_3) := (blk_cell BK263.out 3).trans rfl
                  have hcz33_4 : w7.cell? ⟨gb263, 4, none⟩ = some (.slice A0_4 l0_4.length c0_4) := (blk_cell BK263.out 4).trans rfl
                  have hfz33_0 := blk_frozen BK263.out 0
                  have hfz33_1 := blk_frozen BK263.out 1
                  have hfz33_2 := blk_frozen BK263.out 2
                  have hfz33_3 := blk_frozen BK263.out 3
                  have hfz33_4 := blk_frozen BK263.out 4
                  go_wp2_with (first | ((with_reducible refine gate_callee (f := 10) rfl ?_); refine goesL_ (some 17) rfl rfl Try.func10 (by kernel_rfl) rfl #[.agg #[.int .i64 a0_0, .int .i64 a0_1, .slice A0_2 l0_2.length c0_2, .slice A0_3 l0_3.length c0_3, .slice A0_4 l0_4.length c0_4]] rfl (by (try simp only [List.map_toArray, List.map_cons, List.map_nil]); first | done | rfl | (simp only [List.length_drop, List.length_take]; rfl)) ?_; (with_reducible refine (cutroomlaw08_light.calls a0_0 a0_1 _ _ l0_2 _ _ l0_3 _ _ l0_4 true _ ?side1 ?side2 ?side3 ?side4 ?side5 ?side6 A8.out).mono ?_); (case side1 => repeat (first | exact (Kd.C_below HR0_2.out HB.out) | (with_reducible refine Kd.C_alloc ?_ _) | (with_reducible refine Kd.C_drewN ?_ _) | (with_reducible refine Kd.C_drew ?_))); (case side2 => exact HC0_2.out); (case side3 => repeat (first | exact (Kd.C_below HR0_3.out HB.out) | (with_reducible refine Kd.C_alloc ?_ _) | (with_reducible refine Kd.C_drewN ?_ _) | (with_reducible refine Kd.C_drew ?_))); (case side4 => exact HC0_3.out); (case side5 => repeat (first | exact (Kd.C_below HR0_4.out HB.out) | (with_reducible refine Kd.C_alloc ?_ _) | (with_reducible refine Kd.C_drewN ?_ _) | (with_reducible refine Kd.C_drew ?_))); (case side6 => exact HC0_4.out); rintro e w34 ⟨rfl, hb⟩; refine ⟨_, rfl, ?_⟩; have n0_ := Aside0.mk (blk_below (g := gb263) (o := .cells #[.int .i64 a0_0, .int .i64 a0_1, .slice A0_2 l0_2.length c0_2, .slice A0_3 l0_3.length c0_3, .slice A0_4 l0_4.length c0_4] 24 (0, 0)) (by (with_reducible repeat (first | refine blk_drewN ?_ _ | refine blk_drew ?_ | refine blk_alloc ?_ _)); exact BK263.out) hb); have n1_ := Aside0.mk (below_step (by repeat (first | (with_reducible first | exact HB.out | apply below_alloc | apply pw_below_drewN | apply below_drew1 | refine below_set ?_ GE263.out) | exact HB.out)) hb); clear BK263; clear HB; have BK263 := n0_; have HB := n1_; clear n0_ n1_; (try clear hb); (try clear hb2); (try clear hk); (try clear hi); have hcz35_0 : w34.cell? ⟨gb263, 0, none⟩ = some (.int .i64 a0_0) := (blk_cell BK263.out 0).trans rfl; have hcz35_1 : w34.cell? ⟨gb263, 1, none⟩ = some (.int .i64 a0_1) := (blk_cell BK263.out 1).trans rfl; have hcz35_2 : w34.cell? ⟨gb263, 2, none⟩ = some (.slice A0_2 l0_2.length c0_2) := (blk_cell BK263.out 2).trans rfl; have hcz35_3 : w34.cell? ⟨gb263, 3, none⟩ = some (.slice A0_3 l0_3.length c0_3) := (blk_cell BK263.out 3).trans rfl; have hcz35_4 : w34.cell? ⟨gb263, 4, none⟩ = some (.slice A0_4 l0_4.length c0_4) := (blk_cell BK263.out 4).trans rfl; have hfz35_0 := blk_frozen BK263.out 0; have hfz35_1 := blk_frozen BK263.out 1; have hfz35_2 := blk_frozen BK263.out 2; have hfz35_3 := blk_frozen BK263.out 3; have hfz35_4 := blk_frozen BK263.out 4) | (go_at_call 17; (with_reducible refine (cutroomref07_Valid.calls a0_0 a0_1 _ _ l0_2 _ _ l0_3 _ _ l0_4 true _ ?side1 ?side2 ?side3 ?side4 ?side5 ?side6 A10.out).mono ?_); (case side1 => repeat (first | exact (Kd.C_below HR0_2.out HB.out) | (with_reducible refine Kd.C_alloc ?_ _) | (with_reducible refine Kd.C_drewN ?_ _) | (with_reducible refine Kd.C_drew ?_))); (case side2 => exact HC0_2.out); (case side3 => repeat (first | exact (Kd.C_below HR0_3.out HB.out) | (with_reducible refine Kd.C_alloc ?_ _) | (with_reducible refine Kd.C_drewN ?_ _) | (with_reducible refine Kd.C_drew ?_))); (case side4 => exact HC0_3.out); (case side5 => repeat (first | exact (Kd.C_below HR0_4.out HB.out) | (with_reducible refine Kd.C_alloc ?_ _) | (with_reducible refine Kd.C_drewN ?_ _) | (with_reducible refine Kd.C_drew ?_))); (case side6 => exact HC0_4.out); rintro e w36 ⟨rfl, hb⟩; have n0_ := Aside0.mk (blk_below (g := gb263) (o := .cells #[.int .i64 a0_0, .int .i64 a0_1, .slice A0_2 l0_2.length c0_2, .slice A0_3 l0_3.length c0_3, .slice A0_4 l0_4.length c0_4] 24 (0, 0)) (by (with_reducible repeat (first | refine blk_drewN ?_ _ | refine blk_drew ?_ | refine blk_alloc ?_ _)); exact BK263.out) hb); have n1_ := Aside0.mk (below_step (by repeat (first | (with_reducible first | exact HB.out | apply below_alloc | apply pw_below_drewN | apply below_drew1 | refine below_set ?_ GE263.out) | exact HB.out)) hb); clear BK263; clear HB; have BK263 := n0_; have HB := n1_; clear n0_ n1_; (try clear hb); (try clear hb2); (try clear hk); (try clear hi); have hcz37_0 : w36.cell? ⟨gb263, 0, none⟩ = some (.int .i64 a0_0) := (blk_cell BK263.out 0).trans rfl; have hcz37_1 : w36.cell? ⟨gb263, 1, none⟩ = some (.int .i64 a0_1) := (blk_cell BK263.out 1).trans rfl; have hcz37_2 : w36.cell? ⟨gb263, 2, none⟩ = some (.slice A0_2 l0_2.length c0_2) := (blk_cell BK263.out 2).trans rfl; have hcz37_3 : w36.cell? ⟨gb263, 3, none⟩ = some (.slice A0_3 l0_3.length c0_3) := (blk_cell BK263.out 3).trans rfl; have hcz37_4 : w36.cell? ⟨gb263, 4, none⟩ = some (.slice A0_4 l0_4.length c0_4) := (blk_cell BK263.out 4).trans rfl; have hfz37_0 := blk_frozen BK263.out 0; have hfz37_1 := blk_frozen BK263.out 1; have hfz37_2 := blk_frozen BK263.out 2; have hfz37_3 := blk_frozen BK263.out 3; have hfz37_4 := blk_frozen BK263.out 4))
                  go_meet
                  case rel => exact ⟨_, (true), (by first | rfl | (simp; done) | (simp [*]; done)), H', ⟨by first | omega | exact Nat.le_refl _⟩, ⟨by (with_reducible repeat (first | refine blk_drewN ?_ _ | refine blk_drew ?_ | refine blk_alloc ?_ _)); exact BK263.out⟩, ⟨by repeat (first | (with_reducible first | exact HB.out | apply below_alloc | apply pw_below_drewN | apply below_drew1 | refine below_set ?_ GE263.out) | exact HB.out)⟩⟩
                · rw [if_neg c32] at H
                  have c32b0 : decide (a0_0 < (wrap64 ((wrap64 (16 * a1)) + 16))) = false := decide_eq_false c32
                  clear c32
                  have H' := Aside0.mk H
                  clear H
                  have hcz38_0 : w7.cell? ⟨gb263, 0, none⟩ = some (.int .i64 a0_0) := (blk_cell BK263.out 0).trans rfl
                  have hcz38_1 : w7.cell? ⟨gb263, 1, none⟩ = some (.int .i64 a0_1) := (blk_cell BK263.out 1).trans rfl
                  have hcz38_2 : w7.cell? ⟨gb263, 2, none⟩ = some (.slice A0_2 l0_2.length c0_2) := (blk_cell BK263.out 2).trans rfl
                  have hcz38_3 : w7.cell? ⟨gb263, 3, none⟩ = some (.slice A0_3 l0_3.length c0_3) := (blk_cell BK263.out 3).trans rfl
                  have hcz38_4 : w7.cell? ⟨gb263, 4, none⟩ = some (.slice A0_4 l0_4.length c0_4) := (blk_cell BK263.out 4).trans rfl
                  have hfz38_0 := blk_frozen BK263.out 0
                  have hfz38_1 := blk_frozen BK263.out 1
                  have hfz38_2 := blk_frozen BK263.out 2
                  have hfz38_3 := blk_frozen BK263.out 3
                  have hfz38_4 := blk_frozen BK263.out 4
                  go_wp2_with (first | ((with_reducible refine gate_callee (f := 10) rfl ?_); refine goesL_ (some 17) rfl rfl Try.func10 (by kernel_rfl) rfl #[.agg #[.int .i64 a0_0, .int .i64 a0_1, .slice A0_2 l0_2.length c0_2, .slice A0_3 l0_3.length c0_3, .slice A0_4 l0_4.length c0_4]] rfl (by (try simp only [List.map_toArray, List.map_cons, List.map_nil]); first | done | rfl | (simp only [List.length_drop, List.length_take]; rfl)) ?_; (with_reducible refine (cutroomlaw08_light.calls a0_0 a0_1 _ _ l0_2 _ _ l0_3 _ _ l0_4 true _ ?side1 ?side2 ?side3 ?side4 ?side5 ?side6 A8.out).mono ?_); (case side1 => repeat (first | exact (Kd.C_below HR0_2.out HB.out) | (with_reducible refine Kd.C_alloc ?_ _) | (with_reducible refine Kd.C_drewN ?_ _) | (with_reducible refine Kd.C_drew ?_))); (case side2 => exact HC0_2.out); (case side3 => repeat (first | exact (Kd.C_below HR0_3.out HB.out) | (with_reducible refine Kd.C_alloc ?_ _) | (with_reducible refine Kd.C_drewN ?_ _) | (with_reducible refine Kd.C_drew ?_))); (case side4 => exact HC0_3.out); (case side5 => repeat (first | exact (Kd.C_below HR0_4.out HB.out) | (with_reducible refine Kd.C_alloc ?_ _) | (with_reducible refine Kd.C_drewN ?_ _) | (with_reducible refine Kd.C_drew ?_))); (case side6 => exact HC0_4.out); rintro e w39 ⟨rfl, hb⟩; refine ⟨_, rfl, ?_⟩; have n0_ := Aside0.mk (blk_below (g := gb263) (o := .cells #[.int .i64 a0_0, .int .i64 a0_1, .slice A0_2 l0_2.length c0_2, .slice A0_3 l0_3.length c0_3, .slice A0_4 l0_4.length c0_4] 24 (0, 0)) (by (with_reducible repeat (first | refine blk_drewN ?_ _ | refine blk_drew ?_ | refine blk_alloc ?_ _)); exact BK263.out) hb); have n1_ := Aside0.mk (below_step (by repeat (first | (with_reducible first | exact HB.out | apply below_alloc | apply pw_below_drewN | apply below_drew1 | refine below_set ?_ GE263.out) | exact HB.out)) hb); clear BK263; clear HB; have BK263 := n0_; have HB := n1_; clear n0_ n1_; (try clear hb); (try clear hb2); (try clear hk); (try clear hi); have hcz40_0 : w39.cell? ⟨gb263, 0, none⟩ = some (.int .i64 a0_0) := (blk_cell BK263.out 0).trans rfl; have hcz40_1 : w39.cell? ⟨gb263, 1, none⟩ = some (.int .i64 a0_1) := (blk_cell BK263.out 1).trans rfl; have hcz40_2 : w39.cell? ⟨gb263, 2, none⟩ = some (.slice A0_2 l0_2.length c0_2) := (blk_cell BK263.out 2).trans rfl; have hcz40_3 : w39.cell? ⟨gb263, 3, none⟩ = some (.slice A0_3 l0_3.length c0_3) := (blk_cell BK263.out 3).trans rfl; have hcz40_4 : w39.cell? ⟨gb263, 4, none⟩ = some (.slice A0_4 l0_4.length c0_4) := (blk_cell BK263.out 4).trans rfl; have hfz40_0 := blk_frozen BK263.out 0; have hfz40_1 := blk_frozen BK263.out 1; have hfz40_2 := blk_frozen BK263.out 2; have hfz40_3 := blk_frozen BK263.out 3; have hfz40_4 := blk_frozen BK263.out 4) | (go_at_call 17; (with_reducible refine (cutroomref07_Valid.calls a0_0 a0_1 _ _ l0_2 _ _ l0_3 _ _ l0_4 true _ ?side1 ?side2 ?side3 ?side4 ?side5 ?side6 A10.out).mono ?_); (case side1 => repeat (first | exact (Kd.C_below HR0_2.out HB.out) | (with_reducible refine Kd.C_alloc ?_ _) | (with_reducible refine Kd.C_drewN ?_ _) | (with_reducible refine Kd.C_drew ?_))); (case side2 => exact HC0_2.out); (case side3 => repeat (first | exact (Kd.C_below HR0_3.out HB.out) | (with_reducible refine Kd.C_alloc ?_ _) | (with_reducible refine Kd.C_drewN ?_ _) | (with_reducible refine Kd.C_drew ?_))); (case side4 => exact HC0_3.out); (case side5 => repeat (first | exact (Kd.C_below HR0_4.out HB.out) | (with_reducible refine Kd.C_alloc ?_ _) | (with_reducible refine Kd.C_drewN ?_ _) | (with_reducible refine Kd.C_drew ?_))); (case side6 => exact HC0_4.out); rintro e w41 ⟨rfl, hb⟩; have n0_ := Aside0.mk (blk_below (g := gb263) (o := .cells #[.int .i64 a0_0, .int .i64 a0_1, .slice A0_2 l0_2.length c0_2, .slice A0_3 l0_3.length c0_3, .slice A0_4 l0_4.length c0_4] 24 (0, 0)) (by (with_reducible repeat (first | refine blk_drewN ?_ _ | refine blk_drew ?_ | refine blk_alloc ?_ _)); exact BK263.out) hb); have n1_ := Aside0.mk (below_step (by repeat (first | (with_reducible first | exact HB.out | apply below_alloc | apply pw_below_drewN | apply below_drew1 | refine below_set ?_ GE263.out) | exact HB.out)) hb); clear BK263; clear HB; have BK263 := n0_; have HB := n1_; clear n0_ n1_; (try clear hb); (try clear hb2); (try clear hk); (try clear hi); have hcz42_0 : w41.cell? ⟨gb263, 0, none⟩ = some (.int .i64 a0_0) := (blk_cell BK263.out 0).trans rfl; have hcz42_1 : w41.cell? ⟨gb263, 1, none⟩ = some (.int .i64 a0_1) := (blk_cell BK263.out 1).trans rfl; have hcz42_2 : w41.cell? ⟨gb263, 2, none⟩ = some (.slice A0_2 l0_2.length c0_2) := (blk_cell BK263.out 2).trans rfl; have hcz42_3 : w41.cell? ⟨gb263, 3, none⟩ = some (.slice A0_3 l0_3.length c0_3) := (blk_cell BK263.out 3).trans rfl; have hcz42_4 : w41.cell? ⟨gb263, 4, none⟩ = some (.slice A0_4 l0_4.length c0_4) := (blk_cell BK263.out 4).trans rfl; have hfz42_0 := blk_frozen BK263.out 0; have hfz42_1 := blk_frozen BK263.out 1; have hfz42_2 := blk_frozen BK263.out 2; have hfz42_3 := blk_frozen BK263.out 3; have hfz42_4 := blk_frozen BK263.out 4))
                  go_meet
                  case rel => exact ⟨_, (decide ((wrap64 ((wrap64 (16 * a2)) + 16)) > a0_1)), (by first | rfl | (simp; done) | (simp [*]; done)), H', ⟨by first | omega | exact Nat.le_refl _⟩, ⟨by (with_reducible repeat (first | refine blk_drewN ?_ _ | refine blk_drew ?_ | refine blk_alloc ?_ _)); exact BK263.out⟩, ⟨by repeat (first | (with_reducible first | exact HB.out | apply below_alloc | apply pw_below_drewN | apply below_drew1 | refine below_set ?_ GE263.out) | exact HB.out)⟩⟩
      · replace c11 := Bool.eq_false_iff.mpr c11
        subst c11
        have H1 : (cutroomlaw08_MotionStill.j0 k a1 a2 a3 a4 true a0_0 a0_1 l0_2 l0_3 l0_4) = some r := by rw [if_neg (show ¬ (false = true) by decide)] at H; exact H
        clear H
        have H := H1
        clear H1
        have H' := Aside0.mk H
        clear H
        have hcz43_0 : w7.cell? ⟨gb263, 0, none⟩ = some (.int .i64 a0_0) := (blk_cell BK263.out 0).trans rfl
        have hcz43_1 : w7.cell? ⟨gb263, 1, none⟩ = some (.int .i64 a0_1) := (blk_cell BK263.out 1).trans rfl
        have hcz43_2 : w7.cell? ⟨gb263, 2, none⟩ = some (.slice A0_2 l0_2.length c0_2) := (blk_cell BK263.out 2).trans rfl
        have hcz43_3 : w7.cell? ⟨gb263, 3, none⟩ = some (.slice A0_3 l0_3.length c0_3) := (blk_cell BK263.out 3).trans rfl
        have hcz43_4 : w7.cell? ⟨gb263, 4, none⟩ = some (.slice A0_4 l0_4.length c0_4) := (blk_cell BK263.out 4).trans rfl
        have hfz43_0 := blk_frozen BK263.out 0
        have hfz43_1 := blk_frozen BK263.out 1
        have hfz43_2 := blk_frozen BK263.out 2
        have hfz43_3 := blk_frozen BK263.out 3
        have hfz43_4 := blk_frozen BK263.out 4
        go_wp2_with (first | ((with_reducible refine gate_callee (f := 10) rfl ?_); refine goesL_ (some 17) rfl rfl Try.func10 (by kernel_rfl) rfl #[.agg #[.int .i64 a0_0, .int .i64 a0_1, .slice A0_2 l0_2.length c0_2, .slice A0_3 l0_3.length c0_3, .slice A0_4 l0_4.length c0_4]] rfl (by (try simp only [List.map_toArray, List.map_cons, List.map_nil]); first | done | rfl | (simp only [List.length_drop, List.length_take]; rfl)) ?_; (with_reducible refine (cutroomlaw08_light.calls a0_0 a0_1 _ _ l0_2 _ _ l0_3 _ _ l0_4 true _ ?side1 ?side2 ?side3 ?side4 ?side5 ?side6 A8.out).mono ?_); (case side1 => repeat (first | exact (Kd.C_below HR0_2.out HB.out) | (with_reducible refine Kd.C_alloc ?_ _) | (with_reducible refine Kd.C_drewN ?_ _) | (with_reducible refine Kd.C_drew ?_))); (case side2 => exact HC0_2.out); (case side3 => repeat (first | exact (Kd.C_below HR0_3.out HB.out) | (with_reducible refine Kd.C_alloc ?_ _) | (with_reducible refine Kd.C_drewN ?_ _) | (with_reducible refine Kd.C_drew ?_))); (case side4 => exact HC0_3.out); (case side5 => repeat (first | exact (Kd.C_below HR0_4.out HB.out) | (with_reducible refine Kd.C_alloc ?_ _) | (with_reducible refine Kd.C_drewN ?_ _) | (with_reducible refine Kd.C_drew ?_))); (case side6 => exact HC0_4.out); rintro e w44 ⟨rfl, hb⟩; refine ⟨_, rfl, ?_⟩; have n0_ := Aside0.mk (blk_below (g := gb263) (o := .cells #[.int .i64 a0_0, .int .i64 a0_1, .slice A0_2 l0_2.length c0_2, .slice A0_3 l0_3.length c0_3, .slice A0_4 l0_4.length c0_4] 24 (0, 0)) (by (with_reducible repeat (first | refine blk_drewN ?_ _ | refine blk_drew ?_ | refine blk_alloc ?_ _)); exact BK263.out) hb); have n1_ := Aside0.mk (below_step (by repeat (first | (with_reducible first | exact HB.out | apply below_alloc | apply pw_below_drewN | apply below_drew1 | refine below_set ?_ GE263.out) | exact HB.out)) hb); clear BK263; clear HB; have BK263 := n0_; have HB := n1_; clear n0_ n1_; (try clear hb); (try clear hb2); (try clear hk); (try clear hi); have hcz45_0 : w44.cell? ⟨gb263, 0, none⟩ = some (.int .i64 a0_0) := (blk_cell BK263.out 0).trans rfl; have hcz45_1 : w44.cell? ⟨gb263, 1, none⟩ = some (.int .i64 a0_1) := (blk_cell BK263.out 1).trans rfl; have hcz45_2 : w44.cell? ⟨gb263, 2, none⟩ = some (.slice A0_2 l0_2.length c0_2) := (blk_cell BK263.out 2).trans rfl; have hcz45_3 : w44.cell? ⟨gb263, 3, none⟩ = some (.slice A0_3 l0_3.length c0_3) := (blk_cell BK263.out 3).trans rfl; have hcz45_4 : w44.cell? ⟨gb263, 4, none⟩ = some (.slice A0_4 l0_4.length c0_4) := (blk_cell BK263.out 4).trans rfl; have hfz45_0 := blk_frozen BK263.out 0; have hfz45_1 := blk_frozen BK263.out 1; have hfz45_2 := blk_frozen BK263.out 2; have hfz45_3 := blk_frozen BK263.out 3; have hfz45_4 := blk_frozen BK263.out 4) | (go_at_call 17; (with_reducible refine (cutroomref07_Valid.calls a0_0 a0_1 _ _ l0_2 _ _ l0_3 _ _ l0_4 false _ ?side1 ?side2 ?side3 ?side4 ?side5 ?side6 A10.out).mono ?_); (case side1 => repeat (first | exact (Kd.C_below HR0_2.out HB.out) | (with_reducible refine Kd.C_alloc ?_ _) | (with_reducible refine Kd.C_drewN ?_ _) | (with_reducible refine Kd.C_drew ?_))); (case side2 => exact HC0_2.out); (case side3 => repeat (first | exact (Kd.C_below HR0_3.out HB.out) | (with_reducible refine Kd.C_alloc ?_ _) | (with_reducible refine Kd.C_drewN ?_ _) | (with_reducible refine Kd.C_drew ?_))); (case side4 => exact HC0_3.out); (case side5 => repeat (first | exact (Kd.C_below HR0_4.out HB.out) | (with_reducible refine Kd.C_alloc ?_ _) | (with_reducible refine Kd.C_drewN ?_ _) | (with_reducible refine Kd.C_drew ?_))); (case side6 => exact HC0_4.out); rintro e w46 ⟨rfl, hb⟩; have n0_ := Aside0.mk (blk_below (g := gb263) (o := .cells #[.int .i64 a0_0, .int .i64 a0_1, .slice A0_2 l0_2.length c0_2, .slice A0_3 l0_3.length c0_3, .slice A0_4 l0_4.length c0_4] 24 (0, 0)) (by (with_reducible repeat (first | refine blk_drewN ?_ _ | refine blk_drew ?_ | refine blk_alloc ?_ _)); exact BK263.out) hb); have n1_ := Aside0.mk (below_step (by repeat (first | (with_reducible first | exact HB.out | apply below_alloc | apply pw_below_drewN | apply below_drew1 | refine below_set ?_ GE263.out) | exact HB.out)) hb); clear BK263; clear HB; have BK263 := n0_; have HB := n1_; clear n0_ n1_; (try clear hb); (try clear hb2); (try clear hk); (try clear hi)))
        go_meet
        case rel => exact ⟨_, (true), (by first | rfl | (simp; done) | (simp [*]; done)), H', ⟨by first | omega | exact Nat.le_refl _⟩, ⟨by (with_reducible repeat (first | refine blk_drewN ?_ _ | refine blk_drew ?_ | refine blk_alloc ?_ _)); exact BK263.out⟩, ⟨by repeat (first | (with_reducible first | exact HB.out | apply below_alloc | apply pw_below_drewN | apply below_drew1 | refine below_set ?_ GE263.out) | exact HB.out)⟩⟩
    · replace c9 := Bool.eq_false_iff.mpr c9
      subst c9
      have H1 : (cutroomlaw08_MotionStill.j0 k a1 a2 a3 a4 true a0_0 a0_1 l0_2 l0_3 l0_4) = some r := by rw [if_neg (show ¬ (false = true) by decide)] at H; exact H
      clear H
      have H := H1
      clear H1
      have H' := Aside0.mk H
      clear H
      have hcz47_0 : w7.cell? ⟨gb263, 0, none⟩ = some (.int .i64 a0_0) := (blk_cell BK263.out 0).trans rfl
      have hcz47_1 : w7.cell? ⟨gb263, 1, none⟩ = some (.int .i64 a0_1) := (blk_cell BK263.out 1).trans rfl
      have hcz47_2 : w7.cell? ⟨gb263, 2, none⟩ = some (.slice A0_2 l0_2.length c0_2) := (blk_cell BK263.out 2).trans rfl
      have hcz47_3 : w7.cell? ⟨gb263, 3, none⟩ = some (.slice A0_3 l0_3.length c0_3) := (blk_cell BK263.out 3).trans rfl
      have hcz47_4 : w7.cell? ⟨gb263, 4, none⟩ = some (.slice A0_4 l0_4.length c0_4) := (blk_cell BK263.out 4).trans rfl
      have hfz47_0 := blk_frozen BK263.out 0
      have hfz47_1 := blk_frozen BK263.out 1
      have hfz47_2 := blk_frozen BK263.out 2
      have hfz47_3 := blk_frozen BK263.out 3
      have hfz47_4 := blk_frozen BK263.out 4
      go_wp2_with (first | ((with_reducible refine gate_callee (f := 10) rfl ?_); refine goesL_ (some 17) rfl rfl Try.func10 (by kernel_rfl) rfl #[.agg #[.int .i64 a0_0, .int .i64 a0_1, .slice A0_2 l0_2.length c0_2, .slice A0_3 l0_3.length c0_3, .slice A0_4 l0_4.length c0_4]] rfl (by (try simp only [List.map_toArray, List.map_cons, List.map_nil]); first | done | rfl | (simp only [List.length_drop, List.length_take]; rfl)) ?_; (with_reducible refine (cutroomlaw08_light.calls a0_0 a0_1 _ _ l0_2 _ _ l0_3 _ _ l0_4 false _ ?side1 ?side2 ?side3 ?side4 ?side5 ?side6 A8.out).mono ?_); (case side1 => repeat (first | exact (Kd.C_below HR0_2.out HB.out) | (with_reducible refine Kd.C_alloc ?_ _) | (with_reducible refine Kd.C_drewN ?_ _) | (with_reducible refine Kd.C_drew ?_))); (case side2 => exact HC0_2.out); (case side3 => repeat (first | exact (Kd.C_below HR0_3.out HB.out) | (with_reducible refine Kd.C_alloc ?_ _) | (with_reducible refine Kd.C_drewN ?_ _) | (with_reducible refine Kd.C_drew ?_))); (case side4 => exact HC0_3.out); (case side5 => repeat (first | exact (Kd.C_below HR0_4.out HB.out) | (with_reducible refine Kd.C_alloc ?_ _) | (with_reducible refine Kd.C_drewN ?_ _) | (with_reducible refine Kd.C_drew ?_))); (case side6 => exact HC0_4.out); rintro e w48 ⟨rfl, hb⟩; refine ⟨_, rfl, ?_⟩; have n0_ := Aside0.mk (blk_below (g := gb263) (o := .cells #[.int .i64 a0_0, .int .i64 a0_1, .slice A0_2 l0_2.length c0_2, .slice A0_3 l0_3.length c0_3, .slice A0_4 l0_4.length c0_4] 24 (0, 0)) (by (with_reducible repeat (first | refine blk_drewN ?_ _ | refine blk_drew ?_ | refine blk_alloc ?_ _)); exact BK263.out) hb); have n1_ := Aside0.mk (below_step (by repeat (first | (with_reducible first | exact HB.out | apply below_alloc | apply pw_below_drewN | apply below_drew1 | refine below_set ?_ GE263.out) | exact HB.out)) hb); clear BK263; clear HB; have BK263 := n0_; have HB := n1_; clear n0_ n1_; (try clear hb); (try clear hb2); (try clear hk); (try clear hi)))
      go_meet
      case rel => exact ⟨_, (true), (by first | rfl | (simp; done) | (simp [*]; done)), H', ⟨by first | omega | exact Nat.le_refl _⟩, ⟨by (with_reducible repeat (first | refine blk_drewN ?_ _ | refine blk_drew ?_ | refine blk_alloc ?_ _)); exact BK263.out⟩, ⟨by repeat (first | (with_reducible first | exact HB.out | apply below_alloc | apply pw_below_drewN | apply below_drew1 | refine below_set ?_ GE263.out) | exact HB.out)⟩⟩
  case rest =>
    clear HC6
    try clear c1
    try clear c2
    try clear p2
    try clear c3
    try clear c5
    try clear p6
    try clear c9
    try clear c10
    try clear c11
    try clear c12
    try clear c12b0
    try clear c17
    try clear c17b0
    try clear c22
    try clear c22b0
    try clear c27
    try clear c27b0
    try clear c32
    try clear c32b0
    try clear hcz13_0
    try clear hcz13_1
    try clear hcz13_2
    try clear hcz13_3
    try clear hcz13_4
    try clear hcz15_0
    try clear hcz15_1
    try clear hcz15_2
    try clear hcz15_3
    try clear hcz15_4
    try clear hcz18_0
    try clear hcz18_1
    try clear hcz18_2
    try clear hcz18_3
    try clear hcz18_4
    try clear hcz20_0
    try clear hcz20_1
    try clear hcz20_2
    try clear hcz20_3
    try clear hcz20_4
    try clear hcz23_0
    try clear hcz23_1
    try clear hcz23_2
    try clear hcz23_3
    try clear hcz23_4
    try clear hcz25_0
    try clear hcz25_1
    try clear hcz25_2
    try clear hcz25_3
    try clear hcz25_4
    try clear hcz28_0
    try clear hcz28_1
    try clear hcz28_2
    try clear hcz28_3
    try clear hcz28_4
    try clear hcz30_0
    try clear hcz30_1
    try clear hcz30_2
    try clear hcz30_3
    try clear hcz30_4
    try clear hcz33_0
    try clear hcz33_1
    try clear hcz33_2
    try clear hcz33_3
    try clear hcz33_4
    try clear hcz35_0
    try clear hcz35_1
    try clear hcz35_2
    try clear hcz35_3
    try clear hcz35_4
    try clear hcz37_0
    try clear hcz37_1
    try clear hcz37_2
    try clear hcz37_3
    try clear hcz37_4
    try clear hcz38_0
    try clear hcz38_1
    try clear hcz38_2
    try clear hcz38_3
    try clear hcz38_4
    try clear hcz40_0
    try clear hcz40_1
    try clear hcz40_2
    try clear hcz40_3
    try clear hcz40_4
    try clear hcz42_0
    try clear hcz42_1
    try clear hcz42_2
    try clear hcz42_3
    try clear hcz42_4
    try clear hcz43_0
    try clear hcz43_1
    try clear hcz43_2
    try clear hcz43_3
    try clear hcz43_4
    try clear hcz45_0
    try clear hcz45_1
    try clear hcz45_2
    try clear hcz45_3
    try clear hcz45_4
    try clear hcz47_0
    try clear hcz47_1
    try clear hcz47_2
    try clear hcz47_3
    try clear hcz47_4
    try clear hfz13_0
    try clear hfz13_1
    try clear hfz13_2
    try clear hfz13_3
    try clear hfz13_4
    try clear hfz15_0
    try clear hfz15_1
    try clear hfz15_2
    try clear hfz15_3
    try clear hfz15_4
    try clear hfz18_0
    try clear hfz18_1
    try clear hfz18_2
    try clear hfz18_3
    try clear hfz18_4
    try clear hfz20_0
    try clear hfz20_1
    try clear hfz20_2
    try clear hfz20_3
    try clear hfz20_4
    try clear hfz23_0
    try clear hfz23_1
    try clear hfz23_2
    try clear hfz23_3
    try clear hfz23_4
    try clear hfz25_0
    try clear hfz25_1
    try clear hfz25_2
    try clear hfz25_3
    try clear hfz25_4
    try clear hfz28_0
    try clear hfz28_1
    try clear hfz28_2
    try clear hfz28_3
    try clear hfz28_4
    try clear hfz30_0
    try clear hfz30_1
    try clear hfz30_2
    try clear hfz30_3
    try clear hfz30_4
    try clear hfz33_0
    try clear hfz33_1
    try clear hfz33_2
    try clear hfz33_3
    try clear hfz33_4
    try clear hfz35_0
    try clear hfz35_1
    try clear hfz35_2
    try clear hfz35_3
    try clear hfz35_4
    try clear hfz37_0
    try clear hfz37_1
    try clear hfz37_2
    try clear hfz37_3
    try clear hfz37_4
    try clear hfz38_0
    try clear hfz38_1
    try clear hfz38_2
    try clear hfz38_3
    try clear hfz38_4
    try clear hfz40_0
    try clear hfz40_1
    try clear hfz40_2
    try clear hfz40_3
    try clear hfz40_4
    try clear hfz42_0
    try clear hfz42_1
    try clear hfz42_2
    try clear hfz42_3
    try clear hfz42_4
    try clear hfz43_0
    try clear hfz43_1
    try clear hfz43_2
    try clear hfz43_3
    try clear hfz43_4
    try clear hfz45_0
    try clear hfz45_1
    try clear hfz45_2
    try clear hfz45_3
    try clear hfz45_4
    try clear hfz47_0
    try clear hfz47_1
    try clear hfz47_2
    try clear hfz47_3
    try clear hfz47_4
    obtain ⟨kq, x55_5, rfl, HA, HJ5, BK263, HB⟩ := hcut
    cases kq with
    | zero => exact absurd HA.out (by simp [cutroomlaw08_MotionStill.j0])
    | succ kj5 =>
      have H := HA.out
      clear HA
      simp only [cutroomlaw08_MotionStill.j0] at H
      by_cases c49 : x55_5 = true
      · subst c49
        have H1 : ((cutroomlaw08_awake.f kj5).bind fun t266 => (some t266)) = some r := by rw [if_pos rfl] at H; exact H
        clear H
        have H := H1
        clear H1
        replace H := Option.bind_eq_some_iff.mp H
        obtain ⟨t266, A500, H⟩ := H
        replace H : (some t266) = some r := H
        have A50 := Aside0.mk A500
        clear A500
        obtain rfl := Option.some.inj H
        go_wp2_with (first | ((with_reducible refine gate_callee (f := 13) rfl ?_); refine goesL_ (some 56) rfl rfl Try.func13 (by kernel_rfl) rfl #[] rfl (by (try simp only [List.map_toArray, List.map_cons, List.map_nil]); first | done | rfl | (simp only [List.length_drop, List.length_take]; rfl)) ?_; (with_reducible refine (cutroomlaw08_awake.calls kj5  t266 _ A50.out).mono ?_); rintro e w51 ⟨rfl, hb⟩; refine ⟨_, rfl, ?_⟩; have n0_ := Aside0.mk (blk_below (g := gb263) (o := .cells #[.int .i64 a0_0, .int .i64 a0_1, .slice A0_2 l0_2.length c0_2, .slice A0_3 l0_3.length c0_3, .slice A0_4 l0_4.length c0_4] 24 (0, 0)) (by (with_reducible repeat (first | refine blk_drewN ?_ _ | refine blk_drew ?_ | refine blk_alloc ?_ _)); exact BK263.out) hb); have n1_ := Aside0.mk (below_step (by repeat (first | (with_reducible first | exact HB.out | apply below_alloc | apply pw_below_drewN | apply below_drew1 | refine below_set ?_ GE263.out) | exact HB.out)) hb); clear BK263; clear HB; have BK263 := n0_; have HB := n1_; clear n0_ n1_; (try clear hb); (try clear hb2); (try clear hk); (try clear hi)))
        go_ret
        exact ⟨by first | rfl | (simp [errW_none, errW_some] <;> rfl) | (simp [*, errW_none, errW_some] <;> rfl), by repeat (first | (with_reducible first | exact HB.out | apply below_alloc | apply pw_below_drewN | apply below_drew1 | refine below_set ?_ GE263.out) | exact HB.out)⟩
      · replace c49 := Bool.eq_false_iff.mpr c49
        subst c49
        have H1 : ((motion_Predict.f kj5 a0_0 a0_1 l0_2 l0_3 l0_4 (wrap64 (16 * a1)) (wrap64 (16 * a2)) 16 16 0 0).bind fun bt267 => ((cutroomref07_Macroblock.f kj5 a0_0 a0_1 l0_2 l0_3 l0_4 a1 a2).bind fun bt280 => (if bt267.2.2.2.2.2 = 0 then ((cutroomref07_Equal.f bt267.1 bt267.2.1 bt267.2.2.1 bt267.2.2.2.1 bt267.2.2.2.2.1 bt280.1 bt280.2.1 bt280.2.2.1 bt280.2.2.2.1 bt280.2.2.2.2.1).bind fun t293 => (cutroomlaw08_MotionStill.j1 kj5 a1 a2 a3 a4 (!t293) a0_0 a0_1 l0_2 l0_3 l0_4)) else (cutroomlaw08_MotionStill.j1 kj5 a1 a2 a3 a4 true a0_0 a0_1 l0_2 l0_3 l0_4)))) = some r := by rw [if_neg (show ¬ (false = true) by decide)] at H; exact H
        clear H
        have H := H1
        clear H1
        replace H := Option.bind_eq_some_iff.mp H
        obtain ⟨⟨t267, t268, t269, t272, t275, t278⟩, A520, H⟩ := H
        replace H : ((cutroomref07_Macroblock.f kj5 a0_0 a0_1 l0_2 l0_3 l0_4 a1 a2).bind fun bt280 => (if t278 = 0 then ((cutroomref07_Equal.f t267 t268 t269 t272 t275 bt280.1 bt280.2.1 bt280.2.2.1 bt280.2.2.2.1 bt280.2.2.2.2.1).bind fun t293 => (cutroomlaw08_MotionStill.j1 kj5 a1 a2 a3 a4 (!t293) a0_0 a0_1 l0_2 l0_3 l0_4)) else (cutroomlaw08_MotionStill.j1 kj5 a1 a2 a3 a4 true a0_0 a0_1 l0_2 l0_3 l0_4))) = some r := H
        have A52 := Aside0.mk A520
        clear A520
        replace H := Option.bind_eq_some_iff.mp H
        obtain ⟨⟨t280, t281, t282, t285, t288, t291⟩, A530, H⟩ := H
        replace H : (if t278 = 0 then ((cutroomref07_Equal.f t267 t268 t269 t272 t275 t280 t281 t282 t285 t288).bind fun t293 => (cutroomlaw08_MotionStill.j1 kj5 a1 a2 a3 a4 (!t293) a0_0 a0_1 l0_2 l0_3 l0_4)) else (cutroomlaw08_MotionStill.j1 kj5 a1 a2 a3 a4 true a0_0 a0_1 l0_2 l0_3 l0_4)) = some r := H
        have A53 := Aside0.mk A530
        clear A530
        have HC54 := Aside0.mk H
        clear H
        have hcz55_0 : wc.cell? ⟨gb263, 0, none⟩ = some (.int .i64 a0_0) := (blk_cell BK263.out 0).trans rfl
        have hcz55_1 : wc.cell? ⟨gb263, 1, none⟩ = some (.int .i64 a0_1) := (blk_cell BK263.out 1).trans rfl
        have hcz55_2 : wc.cell? ⟨gb263, 2, none⟩ = some (.slice A0_2 l0_2.length c0_2) := (blk_cell BK263.out 2).trans rfl
        have hcz55_3 : wc.cell? ⟨gb263, 3, none⟩ = some (.slice A0_3 l0_3.length c0_3) := (blk_cell BK263.out 3).trans rfl
        have hcz55_4 : wc.cell? ⟨gb263, 4, none⟩ = some (.slice A0_4 l0_4.length c0_4) := (blk_cell BK263.out 4).trans rfl
        have hfz55_0 := blk_frozen BK263.out 0
        have hfz55_1 := blk_frozen BK263.out 1
        have hfz55_2 := blk_frozen BK263.out 2
        have hfz55_3 := blk_frozen BK263.out 3
        have hfz55_4 := blk_frozen BK263.out 4
        go_upto_region 5 with (first | ((with_reducible refine gate_callee (f := 15) rfl ?_); refine goesL_ (some 64) rfl rfl Try.func15 (by kernel_rfl) rfl #[.agg #[.int .i64 a0_0, .int .i64 a0_1, .slice A0_2 l0_2.length c0_2, .slice A0_3 l0_3.length c0_3, .slice A0_4 l0_4.length c0_4], .int .i64 (wrap64 (16 * a1)), .int .i64 (wrap64 (16 * a2)), .int .i64 16, .int .i64 16, .agg #[.int .i64 0, .int .i64 0]] rfl (by (try simp only [List.map_toArray, List.map_cons, List.map_nil]); first | done | rfl | (simp only [List.length_drop, List.length_take]; rfl)) ?_; (with_reducible refine (motion_Predict.calls kj5 a0_0 a0_1 _ _ l0_2 _ _ l0_3 _ _ l0_4 (wrap64 (16 * a1)) (wrap64 (16 * a2)) 16 16 0 0 t267 t268 t269 t272 t275 t278 _ ?side1 ?side2 ?side3 ?side4 ?side5 ?side6 A52.out).mono ?_); (case side1 => repeat (first | exact (Kd.C_below HR0_2.out HB.out) | (with_reducible refine Kd.C_alloc ?_ _) | (with_reducible refine Kd.C_drewN ?_ _) | (with_reducible refine Kd.C_drew ?_))); (case side2 => exact HC0_2.out); (case side3 => repeat (first | exact (Kd.C_below HR0_3.out HB.out) | (with_reducible refine Kd.C_alloc ?_ _) | (with_reducible refine Kd.C_drewN ?_ _) | (with_reducible refine Kd.C_drew ?_))); (case side4 => exact HC0_3.out); (case side5 => repeat (first | exact (Kd.C_below HR0_4.out HB.out) | (with_reducible refine Kd.C_alloc ?_ _) | (with_reducible refine Kd.C_drewN ?_ _) | (with_reducible refine Kd.C_drew ?_))); (case side6 => exact HC0_4.out); rintro e w56 ⟨v270, v273, v276, rfl, ho0, ho1, ho2, hb⟩; refine ⟨_, rfl, ?_⟩; have n0_ := Aside0.mk (Kd.R_lower ho0 (below_size (by repeat (first | (with_reducible first | exact HB.out | apply below_alloc | apply pw_below_drewN | apply below_drew1 | refine below_set ?_ GE263.out) | exact HB.out)))); have n1_ := Aside0.mk (Kd.R_lower ho1 (below_size (by repeat (first | (with_reducible first | exact HB.out | apply below_alloc | apply pw_below_drewN | apply below_drew1 | refine below_set ?_ GE263.out) | exact HB.out)))); have n2_ := Aside0.mk (Kd.R_lower ho2 (below_size (by repeat (first | (with_reducible first | exact HB.out | apply below_alloc | apply pw_below_drewN | apply below_drew1 | refine below_set ?_ GE263.out) | exact HB.out)))); have n3_ := Aside0.mk (blk_below (g := gb263) (o := .cells #[.int .i64 a0_0, .int .i64 a0_1, .slice A0_2 l0_2.length c0_2, .slice A0_3 l0_3.length c0_3, .slice A0_4 l0_4.length c0_4] 24 (0, 0)) (by (with_reducible repeat (first | refine blk_drewN ?_ _ | refine blk_drew ?_ | refine blk_alloc ?_ _)); exact BK263.out) hb); have n4_ := Aside0.mk (below_step (by repeat (first | (with_reducible first | exact HB.out | apply below_alloc | apply pw_below_drewN | apply below_drew1 | refine below_set ?_ GE263.out) | exact HB.out)) hb); clear BK263; clear HB; have HO271 := n0_; have HO274 := n1_; have HO277 := n2_; have BK263 := n3_; have HB := n4_; clear n0_ n1_ n2_ n3_ n4_; (try clear hb); (try clear hb2); (try clear hk); (try clear hi); (try clear ho0); (try clear ho1); (try clear ho2)) | ((with_reducible refine gate_dst (N := 11) rfl ?_); refine box_event ?hg (N := 11) ?hd (cs := #[.int .i64 0, .int .i64 0, .slice none 0 0, .slice none 0 0, .slice none 0 0]) (t := 24) ?hr ?_; (case hd => rfl); (case hg => rfl); (case hr => first | (go_simp; done) | (go_simp; rfl)); intro gb279 hg w57 hbox hb; have n0_ := Aside0.mk (Kd.R_below (by (with_reducible repeat (first | apply Kd.R_alloc | apply Kd.R_drewN | apply Kd.R_drew)); exact HO271.out) hb); have n1_ := Aside0.mk (Kd.R_below (by (with_reducible repeat (first | apply Kd.R_alloc | apply Kd.R_drewN | apply Kd.R_drew)); exact HO274.out) hb); have n2_ := Aside0.mk (Kd.R_below (by (with_reducible repeat (first | apply Kd.R_alloc | apply Kd.R_drewN | apply Kd.R_drew)); exact HO277.out) hb); have n3_ := Aside0.mk (blk_below (g := gb263) (o := .cells #[.int .i64 a0_0, .int .i64 a0_1, .slice A0_2 l0_2.length c0_2, .slice A0_3 l0_3.length c0_3, .slice A0_4 l0_4.length c0_4] 24 (0, 0)) (by (with_reducible repeat (first | refine blk_drewN ?_ _ | refine blk_drew ?_ | refine blk_alloc ?_ _)); exact BK263.out) hb); have n4_ := Aside0.mk (below_step (by repeat (first | (with_reducible first | exact HB.out | apply below_alloc | apply pw_below_drewN | apply below_drew1 | refine below_set ?_ GE263.out) | exact HB.out)) hb); have n5_ := Aside0.mk (hbox); have n6_ := Aside0.mk ((by rw [hg]; exact (below_size (by repeat (first | (with_reducible first | exact HB.out | apply below_alloc | apply pw_below_drewN | apply below_drew1 | refine below_set ?_ GE263.out) | exact HB.out))) : w.heap.size ≤ gb279)); have n7_ := Aside0.mk ((by rw [hg]; exact (below_size (by repeat (first | (with_reducible first | exact HB.out | apply below_alloc | apply pw_below_drewN | apply below_drew1 | refine below_set ?_ GE263.out) | exact HB.out))) : w.heap.size ≤ gb279)); have n8_ := Aside0.mk ((by rw [hg]; exact Nat.ne_of_lt (blk_lt (g := gb263) (o := .cells #[.int .i64 a0_0, .int .i64 a0_1, .slice A0_2 l0_2.length c0_2, .slice A0_3 l0_3.length c0_3, .slice A0_4 l0_4.length c0_4] 24 (0, 0)) (by (with_reducible repeat (first | refine blk_drewN ?_ _ | refine blk_drew ?_ | refine blk_alloc ?_ _)); exact BK263.out)) : gb263 ≠ gb279)); have n9_ := Aside0.mk ((by rw [hg]; exact Nat.ne_of_gt (blk_lt (g := gb263) (o := .cells #[.int .i64 a0_0, .int .i64 a0_1, .slice A0_2 l0_2.length c0_2, .slice A0_3 l0_3.length c0_3, .slice A0_4 l0_4.length c0_4] 24 (0, 0)) (by (with_reducible repeat (first | refine blk_drewN ?_ _ | refine blk_drew ?_ | refine blk_alloc ?_ _)); exact BK263.out)) : gb279 ≠ gb263)); clear HO271; clear HO274; clear HO277; clear BK263; clear HB; have HO271 := n0_; have HO274 := n1_; have HO277 := n2_; have BK263 := n3_; have HB := n4_; have BK279 := n5_; have GW279 := n6_; have GE279 := n7_; have NB263_279 := n8_; have NB279_263 := n9_; clear n0_ n1_ n2_ n3_ n4_ n5_ n6_ n7_ n8_ n9_; clear hb hbox hg; have hnb58 := NB279_263.out; have hnc58 := NB263_279.out; have hcz59_0 : w57.cell? ⟨gb279, 0, none⟩ = some (.int .i64 0) := (blk_cell BK279.out 0).trans rfl; have hcz59_1 : w57.cell? ⟨gb279, 1, none⟩ = some (.int .i64 0) := (blk_cell BK279.out 1).trans rfl; have hcz59_2 : w57.cell? ⟨gb279, 2, none⟩ = some (.slice none 0 0) := (blk_cell BK279.out 2).trans rfl; have hcz59_3 : w57.cell? ⟨gb279, 3, none⟩ = some (.slice none 0 0) := (blk_cell BK279.out 3).trans rfl; have hcz59_4 : w57.cell? ⟨gb279, 4, none⟩ = some (.slice none 0 0) := (blk_cell BK279.out 4).trans rfl; have hfz59_0 := blk_frozen BK279.out 0; have hfz59_1 := blk_frozen BK279.out 1; have hfz59_2 := blk_frozen BK279.out 2; have hfz59_3 := blk_frozen BK279.out 3; have hfz59_4 := blk_frozen BK279.out 4; obtain ⟨Ao60, co60, eo60⟩ := Kd.R_slice HO271.out; subst eo60; obtain ⟨Ao61, co61, eo61⟩ := Kd.R_slice HO274.out; subst eo61; obtain ⟨Ao62, co62, eo62⟩ := Kd.R_slice HO277.out; subst eo62; have hcz63_0 : w57.cell? ⟨gb263, 0, none⟩ = some (.int .i64 a0_0) := (blk_cell BK263.out 0).trans rfl; have hcz63_1 : w57.cell? ⟨gb263, 1, none⟩ = some (.int .i64 a0_1) := (blk_cell BK263.out 1).trans rfl; have hcz63_2 : w57.cell? ⟨gb263, 2, none⟩ = some (.slice A0_2 l0_2.length c0_2) := (blk_cell BK263.out 2).trans rfl; have hcz63_3 : w57.cell? ⟨gb263, 3, none⟩ = some (.slice A0_3 l0_3.length c0_3) := (blk_cell BK263.out 3).trans rfl; have hcz63_4 : w57.cell? ⟨gb263, 4, none⟩ = some (.slice A0_4 l0_4.length c0_4) := (blk_cell BK263.out 4).trans rfl; have hfz63_0 := blk_frozen BK263.out 0; have hfz63_1 := blk_frozen BK263.out 1; have hfz63_2 := blk_frozen BK263.out 2; have hfz63_3 := blk_frozen BK263.out 3; have hfz63_4 := blk_frozen BK263.out 4) | ((with_reducible refine gate_callee (f := 18) rfl ?_); refine goesL_ (some 71) rfl rfl Try.func18 (by kernel_rfl) rfl #[.agg #[.int .i64 a0_0, .int .i64 a0_1, .slice A0_2 l0_2.length c0_2, .slice A0_3 l0_3.length c0_3, .slice A0_4 l0_4.length c0_4], .int .i64 a1, .int .i64 a2] rfl (by (try simp only [List.map_toArray, List.map_cons, List.map_nil]); first | done | rfl | (simp only [List.length_drop, List.length_take]; rfl)) ?_; (with_reducible refine (cutroomref07_Macroblock.calls kj5 a0_0 a0_1 _ _ l0_2 _ _ l0_3 _ _ l0_4 a1 a2 t280 t281 t282 t285 t288 t291 _ ?side1 ?side2 ?side3 ?side4 ?side5 ?side6 A53.out).mono ?_); (case side1 => exact Kd.C_below HR0_2.out (by repeat (first | (with_reducible first | exact HB.out | apply below_alloc | apply pw_below_drewN | apply below_drew1 | refine below_set ?_ GE263.out | refine below_set ?_ GE279.out) | exact HB.out))); (case side2 => exact HC0_2.out); (case side3 => exact Kd.C_below HR0_3.out (by repeat (first | (with_reducible first | exact HB.out | apply below_alloc | apply pw_below_drewN | apply below_drew1 | refine below_set ?_ GE263.out | refine below_set ?_ GE279.out) | exact HB.out))); (case side4 => exact HC0_3.out); (case side5 => exact Kd.C_below HR0_4.out (by repeat (first | (with_reducible first | exact HB.out | apply below_alloc | apply pw_below_drewN | apply below_drew1 | refine below_set ?_ GE263.out | refine below_set ?_ GE279.out) | exact HB.out))); (case side6 => exact HC0_4.out); rintro e w64 ⟨v283, v286, v289, rfl, ho0, ho1, ho2, hb⟩; refine ⟨_, rfl, ?_⟩; have n0_ := Aside0.mk (Kd.R_mono (Kd.R_told (Kd.R_told (Kd.R_told (Kd.R_old (by (with_reducible repeat (first | apply Kd.R_alloc | apply Kd.R_drewN | apply Kd.R_drew)); exact (Kd.R_mono (Kd.R_far (p := ⟨gb279, 4, none⟩) (Kd.R_far (p := ⟨gb279, 3, none⟩) (Kd.R_far (p := ⟨gb279, 2, none⟩) (Kd.R_far (p := ⟨gb279, 1, none⟩) (Kd.R_far (p := ⟨gb279, 0, none⟩) (Kd.R_types HO271.out BK279.out (by decide)) (fun _ hk => hk.2) (.int .i64 t267)) (fun _ hk => hk.2) (.int .i64 t268)) (fun _ hk => hk.2) (.slice Ao60 t269.length co60)) (fun _ hk => hk.2) (.slice Ao61 t272.length co61)) (fun _ hk => hk.2) (.slice Ao62 t275.length co62)) (fun _ h_ => h_.1))) hb) (Kd.R_base ho0)) (Kd.R_base ho1)) (Kd.R_base ho2)) (fun _ h_ => h_.1)); have n1_ := Aside0.mk (Kd.R_mono (Kd.R_told (Kd.R_told (Kd.R_told (Kd.R_old (by (with_reducible repeat (first | apply Kd.R_alloc | apply Kd.R_drewN | apply Kd.R_drew)); exact (Kd.R_mono (Kd.R_far (p := ⟨gb279, 4, none⟩) (Kd.R_far (p := ⟨gb279, 3, none⟩) (Kd.R_far (p := ⟨gb279, 2, none⟩) (Kd.R_far (p := ⟨gb279, 1, none⟩) (Kd.R_far (p := ⟨gb279, 0, none⟩) (Kd.R_types HO274.out BK279.out (by decide)) (fun _ hk => hk.2) (.int .i64 t267)) (fun _ hk => hk.2) (.int .i64 t268)) (fun _ hk => hk.2) (.slice Ao60 t269.length co60)) (fun _ hk => hk.2) (.slice Ao61 t272.length co61)) (fun _ hk => hk.2) (.slice Ao62 t275.length co62)) (fun _ h_ => h_.1))) hb) (Kd.R_base ho0)) (Kd.R_base ho1)) (Kd.R_base ho2)) (fun _ h_ => h_.1)); have n2_ := Aside0.mk (Kd.R_mono (Kd.R_told (Kd.R_told (Kd.R_told (Kd.R_old (by (with_reducible repeat (first | apply Kd.R_alloc | apply Kd.R_drewN | apply Kd.R_drew)); exact (Kd.R_mono (Kd.R_far (p := ⟨gb279, 4, none⟩) (Kd.R_far (p := ⟨gb279, 3, none⟩) (Kd.R_far (p := ⟨gb279, 2, none⟩) (Kd.R_far (p := ⟨gb279, 1, none⟩) (Kd.R_far (p := ⟨gb279, 0, none⟩) (Kd.R_types HO277.out BK279.out (by decide)) (fun _ hk => hk.2) (.int .i64 t267)) (fun _ hk => hk.2) (.int .i64 t268)) (fun _ hk => hk.2) (.slice Ao60 t269.length co60)) (fun _ hk => hk.2) (.slice Ao61 t272.length co61)) (fun _ hk => hk.2) (.slice Ao62 t275.length co62)) (fun _ h_ => h_.1))) hb) (Kd.R_base ho0)) (Kd.R_base ho1)) (Kd.R_base ho2)) (fun _ h_ => h_.1)); have n3_ := Aside0.mk (Kd.R_lower (Kd.R_new' (Kd.R_new' (Kd.R_new' ho0 (Kd.R_lt (by (with_reducible repeat (first | apply Kd.R_alloc | apply Kd.R_drewN | apply Kd.R_drew)); exact (Kd.R_mono (Kd.R_far (p := ⟨gb279, 4, none⟩) (Kd.R_far (p := ⟨gb279, 3, none⟩) (Kd.R_far (p := ⟨gb279, 2, none⟩) (Kd.R_far (p := ⟨gb279, 1, none⟩) (Kd.R_far (p := ⟨gb279, 0, none⟩) (Kd.R_types HO271.out BK279.out (by decide)) (fun _ hk => hk.2) (.int .i64 t267)) (fun _ hk => hk.2) (.int .i64 t268)) (fun _ hk => hk.2) (.slice Ao60 t269.length co60)) (fun _ hk => hk.2) (.slice Ao61 t272.length co61)) (fun _ hk => hk.2) (.slice Ao62 t275.length co62)) (fun _ h_ => h_.1))))) (Kd.R_lt (by (with_reducible repeat (first | apply Kd.R_alloc | apply Kd.R_drewN | apply Kd.R_drew)); exact (Kd.R_mono (Kd.R_far (p := ⟨gb279, 4, none⟩) (Kd.R_far (p := ⟨gb279, 3, none⟩) (Kd.R_far (p := ⟨gb279, 2, none⟩) (Kd.R_far (p := ⟨gb279, 1, none⟩) (Kd.R_far (p := ⟨gb279, 0, none⟩) (Kd.R_types HO274.out BK279.out (by decide)) (fun _ hk => hk.2) (.int .i64 t267)) (fun _ hk => hk.2) (.int .i64 t268)) (fun _ hk => hk.2) (.slice Ao60 t269.length co60)) (fun _ hk => hk.2) (.slice Ao61 t272.length co61)) (fun _ hk => hk.2) (.slice Ao62 t275.length co62)) (fun _ h_ => h_.1))))) (Kd.R_lt (by (with_reducible repeat (first | apply Kd.R_alloc | apply Kd.R_drewN | apply Kd.R_drew)); exact (Kd.R_mono (Kd.R_far (p := ⟨gb279, 4, none⟩) (Kd.R_far (p := ⟨gb279, 3, none⟩) (Kd.R_far (p := ⟨gb279, 2, none⟩) (Kd.R_far (p := ⟨gb279, 1, none⟩) (Kd.R_far (p := ⟨gb279, 0, none⟩) (Kd.R_types HO277.out BK279.out (by decide)) (fun _ hk => hk.2) (.int .i64 t267)) (fun _ hk => hk.2) (.int .i64 t268)) (fun _ hk => hk.2) (.slice Ao60 t269.length co60)) (fun _ hk => hk.2) (.slice Ao61 t272.length co61)) (fun _ hk => hk.2) (.slice Ao62 t275.length co62)) (fun _ h_ => h_.1))))) (below_size (by repeat (first | (with_reducible first | exact HB.out | apply below_alloc | apply pw_below_drewN | apply below_drew1 | refine below_set ?_ GE263.out | refine below_set ?_ GE279.out) | exact HB.out)))); have n4_ := Aside0.mk (Kd.R_lower (Kd.R_new' (Kd.R_new' (Kd.R_new' ho1 (Kd.R_lt (by (with_reducible repeat (first | apply Kd.R_alloc | apply Kd.R_drewN | apply Kd.R_drew)); exact (Kd.R_mono (Kd.R_far (p := ⟨gb279, 4, none⟩) (Kd.R_far (p := ⟨gb279, 3, none⟩) (Kd.R_far (p := ⟨gb279, 2, none⟩) (Kd.R_far (p := ⟨gb279, 1, none⟩) (Kd.R_far (p := ⟨gb279, 0, none⟩) (Kd.R_types HO271.out BK279.out (by decide)) (fun _ hk => hk.2) (.int .i64 t267)) (fun _ hk => hk.2) (.int .i64 t268)) (fun _ hk => hk.2) (.slice Ao60 t269.length co60)) (fun _ hk => hk.2) (.slice Ao61 t272.length co61)) (fun _ hk => hk.2) (.slice Ao62 t275.length co62)) (fun _ h_ => h_.1))))) (Kd.R_lt (by (with_reducible repeat (first | apply Kd.R_alloc | apply Kd.R_drewN | apply Kd.R_drew)); exact (Kd.R_mono (Kd.R_far (p := ⟨gb279, 4, none⟩) (Kd.R_far (p := ⟨gb279, 3, none⟩) (Kd.R_far (p := ⟨gb279, 2, none⟩) (Kd.R_far (p := ⟨gb279, 1, none⟩) (Kd.R_far (p := ⟨gb279, 0, none⟩) (Kd.R_types HO274.out BK279.out (by decide)) (fun _ hk => hk.2) (.int .i64 t267)) (fun _ hk => hk.2) (.int .i64 t268)) (fun _ hk => hk.2) (.slice Ao60 t269.length co60)) (fun _ hk => hk.2) (.slice Ao61 t272.length co61)) (fun _ hk => hk.2) (.slice Ao62 t275.length co62)) (fun _ h_ => h_.1))))) (Kd.R_lt (by (with_reducible repeat (first | apply Kd.R_alloc | apply Kd.R_drewN | apply Kd.R_drew)); exact (Kd.R_mono (Kd.R_far (p := ⟨gb279, 4, none⟩) (Kd.R_far (p := ⟨gb279, 3, none⟩) (Kd.R_far (p := ⟨gb279, 2, none⟩) (Kd.R_far (p := ⟨gb279, 1, none⟩) (Kd.R_far (p := ⟨gb279, 0, none⟩) (Kd.R_types HO277.out BK279.out (by decide)) (fun _ hk => hk.2) (.int .i64 t267)) (fun _ hk => hk.2) (.int .i64 t268)) (fun _ hk => hk.2) (.slice Ao60 t269.length co60)) (fun _ hk => hk.2) (.slice Ao61 t272.length co61)) (fun _ hk => hk.2) (.slice Ao62 t275.length co62)) (fun _ h_ => h_.1))))) (below_size (by repeat (first | (with_reducible first | exact HB.out | apply below_alloc | apply pw_below_drewN | apply below_drew1 | refine below_set ?_ GE263.out | refine below_set ?_ GE279.out) | exact HB.out)))); have n5_ := Aside0.mk (Kd.R_lower (Kd.R_new' (Kd.R_new' (Kd.R_new' ho2 (Kd.R_lt (by (with_reducible repeat (first | apply Kd.R_alloc | apply Kd.R_drewN | apply Kd.R_drew)); exact (Kd.R_mono (Kd.R_far (p := ⟨gb279, 4, none⟩) (Kd.R_far (p := ⟨gb279, 3, none⟩) (Kd.R_far (p := ⟨gb279, 2, none⟩) (Kd.R_far (p := ⟨gb279, 1, none⟩) (Kd.R_far (p := ⟨gb279, 0, none⟩) (Kd.R_types HO271.out BK279.out (by decide)) (fun _ hk => hk.2) (.int .i64 t267)) (fun _ hk => hk.2) (.int .i64 t268)) (fun _ hk => hk.2) (.slice Ao60 t269.length co60)) (fun _ hk => hk.2) (.slice Ao61 t272.length co61)) (fun _ hk => hk.2) (.slice Ao62 t275.length co62)) (fun _ h_ => h_.1))))) (Kd.R_lt (by (with_reducible repeat (first | apply Kd.R_alloc | apply Kd.R_drewN | apply Kd.R_drew)); exact (Kd.R_mono (Kd.R_far (p := ⟨gb279, 4, none⟩) (Kd.R_far (p := ⟨gb279, 3, none⟩) (Kd.R_far (p := ⟨gb279, 2, none⟩) (Kd.R_far (p := ⟨gb279, 1, none⟩) (Kd.R_far (p := ⟨gb279, 0, none⟩) (Kd.R_types HO274.out BK279.out (by decide)) (fun _ hk => hk.2) (.int .i64 t267)) (fun _ hk => hk.2) (.int .i64 t268)) (fun _ hk => hk.2) (.slice Ao60 t269.length co60)) (fun _ hk => hk.2) (.slice Ao61 t272.length co61)) (fun _ hk => hk.2) (.slice Ao62 t275.length co62)) (fun _ h_ => h_.1))))) (Kd.R_lt (by (with_reducible repeat (first | apply Kd.R_alloc | apply Kd.R_drewN | apply Kd.R_drew)); exact (Kd.R_mono (Kd.R_far (p := ⟨gb279, 4, none⟩) (Kd.R_far (p := ⟨gb279, 3, none⟩) (Kd.R_far (p := ⟨gb279, 2, none⟩) (Kd.R_far (p := ⟨gb279, 1, none⟩) (Kd.R_far (p := ⟨gb279, 0, none⟩) (Kd.R_types HO277.out BK279.out (by decide)) (fun _ hk => hk.2) (.int .i64 t267)) (fun _ hk => hk.2) (.int .i64 t268)) (fun _ hk => hk.2) (.slice Ao60 t269.length co60)) (fun _ hk => hk.2) (.slice Ao61 t272.length co61)) (fun _ hk => hk.2) (.slice Ao62 t275.length co62)) (fun _ h_ => h_.1))))) (below_size (by repeat (first | (with_reducible first | exact HB.out | apply below_alloc | apply pw_below_drewN | apply below_drew1 | refine below_set ?_ GE263.out | refine below_set ?_ GE279.out) | exact HB.out)))); have n6_ := Aside0.mk (blk_below (g := gb263) (o := .cells #[.int .i64 a0_0, .int .i64 a0_1, .slice A0_2 l0_2.length c0_2, .slice A0_3 l0_3.length c0_3, .slice A0_4 l0_4.length c0_4] 24 (0, 0)) (by (with_reducible repeat (first | refine blk_drewN ?_ _ | refine blk_drew ?_ | refine blk_alloc ?_ _)); refine blk_far ?_ NB263_279.out _; (with_reducible repeat (first | refine blk_drewN ?_ _ | refine blk_drew ?_ | refine blk_alloc ?_ _)); refine blk_far ?_ NB263_279.out _; (with_reducible repeat (first | refine blk_drewN ?_ _ | refine blk_drew ?_ | refine blk_alloc ?_ _)); refine blk_far ?_ NB263_279.out _; (with_reducible repeat (first | refine blk_drewN ?_ _ | refine blk_drew ?_ | refine blk_alloc ?_ _)); refine blk_far ?_ NB263_279.out _; (with_reducible repeat (first | refine blk_drewN ?_ _ | refine blk_drew ?_ | refine blk_alloc ?_ _)); refine blk_far ?_ NB263_279.out _; (with_reducible repeat (first | refine blk_drewN ?_ _ | refine blk_drew ?_ | refine blk_alloc ?_ _)); exact BK263.out) hb); have n7_ := Aside0.mk (blk_below (g := gb279) (o := .cells #[.int .i64 t267, .int .i64 t268, .slice Ao60 t269.length co60, .slice Ao61 t272.length co61, .slice Ao62 t275.length co62] 24 (0, 0)) (by (with_reducible repeat (first | refine blk_drewN ?_ _ | refine blk_drew ?_ | refine blk_alloc ?_ _)); refine blk_put (cs := #[.int .i64 t267, .int .i64 t268, .slice Ao60 t269.length co60, .slice Ao61 t272.length co61, .slice none 0 0]) ?_ 4 _ rfl; (with_reducible repeat (first | refine blk_drewN ?_ _ | refine blk_drew ?_ | refine blk_alloc ?_ _)); refine blk_put (cs := #[.int .i64 t267, .int .i64 t268, .slice Ao60 t269.length co60, .slice none 0 0, .slice none 0 0]) ?_ 3 _ rfl; (with_reducible repeat (first | refine blk_drewN ?_ _ | refine blk_drew ?_ | refine blk_alloc ?_ _)); refine blk_put (cs := #[.int .i64 t267, .int .i64 t268, .slice none 0 0, .slice none 0 0, .slice none 0 0]) ?_ 2 _ rfl; (with_reducible repeat (first | refine blk_drewN ?_ _ | refine blk_drew ?_ | refine blk_alloc ?_ _)); refine blk_put (cs := #[.int .i64 t267, .int .i64 0, .slice none 0 0, .slice none 0 0, .slice none 0 0]) ?_ 1 _ rfl; (with_reducible repeat (first | refine blk_drewN ?_ _ | refine blk_drew ?_ | refine blk_alloc ?_ _)); refine blk_put (cs := #[.int .i64 0, .int .i64 0, .slice none 0 0, .slice none 0 0, .slice none 0 0]) ?_ 0 _ rfl; (with_reducible repeat (first | refine blk_drewN ?_ _ | refine blk_drew ?_ | refine blk_alloc ?_ _)); exact BK279.out) hb); have n8_ := Aside0.mk (below_step (by repeat (first | (with_reducible first | exact HB.out | apply below_alloc | apply pw_below_drewN | apply below_drew1 | refine below_set ?_ GE263.out | refine below_set ?_ GE279.out) | exact HB.out)) hb); clear HO271; clear HO274; clear HO277; clear BK263; clear BK279; clear HB; have HO271 := n0_; have HO274 := n1_; have HO277 := n2_; have HO284 := n3_; have HO287 := n4_; have HO290 := n5_; have BK263 := n6_; have BK279 := n7_; have HB := n8_; clear n0_ n1_ n2_ n3_ n4_ n5_ n6_ n7_ n8_; (try clear hb); (try clear hb2); (try clear hk); (try clear hi); (try clear ho0); (try clear ho1); (try clear ho2)) | ((with_reducible refine gate_dst (N := 13) rfl ?_); refine box_event ?hg (N := 13) ?hd (cs := #[.int .i64 0, .int .i64 0, .slice none 0 0, .slice none 0 0, .slice none 0 0]) (t := 24) ?hr ?_; (case hd => rfl); (case hg => rfl); (case hr => first | (go_simp; done) | (go_simp; rfl)); intro gb292 hg w65 hbox hb; have n0_ := Aside0.mk (Kd.R_below (by (with_reducible repeat (first | apply Kd.R_alloc | apply Kd.R_drewN | apply Kd.R_drew)); exact HO271.out) hb); have n1_ := Aside0.mk (Kd.R_below (by (with_reducible repeat (first | apply Kd.R_alloc | apply Kd.R_drewN | apply Kd.R_drew)); exact HO274.out) hb); have n2_ := Aside0.mk (Kd.R_below (by (with_reducible repeat (first | apply Kd.R_alloc | apply Kd.R_drewN | apply Kd.R_drew)); exact HO277.out) hb); have n3_ := Aside0.mk (Kd.R_below (by (with_reducible repeat (first | apply Kd.R_alloc | apply Kd.R_drewN | apply Kd.R_drew)); exact HO284.out) hb); have n4_ := Aside0.mk (Kd.R_below (by (with_reducible repeat (first | apply Kd.R_alloc | apply Kd.R_drewN | apply Kd.R_drew)); exact HO287.out) hb); have n5_ := Aside0.mk (Kd.R_below (by (with_reducible repeat (first | apply Kd.R_alloc | apply Kd.R_drewN | apply Kd.R_drew)); exact HO290.out) hb); have n6_ := Aside0.mk (blk_below (g := gb263) (o := .cells #[.int .i64 a0_0, .int .i64 a0_1, .slice A0_2 l0_2.length c0_2, .slice A0_3 l0_3.length c0_3, .slice A0_4 l0_4.length c0_4] 24 (0, 0)) (by (with_reducible repeat (first | refine blk_drewN ?_ _ | refine blk_drew ?_ | refine blk_alloc ?_ _)); exact BK263.out) hb); have n7_ := Aside0.mk (blk_below (g := gb279) (o := .cells #[.int .i64 t267, .int .i64 t268, .slice Ao60 t269.length co60, .slice Ao61 t272.length co61, .slice Ao62 t275.length co62] 24 (0, 0)) (by (with_reducible repeat (first | refine blk_drewN ?_ _ | refine blk_drew ?_ | refine blk_alloc ?_ _)); exact BK279.out) hb); have n8_ := Aside0.mk (below_step (by repeat (first | (with_reducible first | exact HB.out | apply below_alloc | apply pw_below_drewN | apply below_drew1 | refine below_set ?_ GE263.out | refine below_set ?_ GE279.out) | exact HB.out)) hb); have n9_ := Aside0.mk (hbox); have n10_ := Aside0.mk ((by rw [hg]; exact (below_size (by repeat (first | (with_reducible first | exact HB.out | apply below_alloc | apply pw_below_drewN | apply below_drew1 | refine below_set ?_ GE263.out | refine below_set ?_ GE279.out) | exact HB.out))) : w.heap.size ≤ gb292)); have n11_ := Aside0.mk ((by rw [hg]; exact (below_size (by repeat (first | (with_reducible first | exact HB.out | apply below_alloc | apply pw_below_drewN | apply below_drew1 | refine below_set ?_ GE263.out | refine below_set ?_ GE279.out) | exact HB.out))) : w.heap.size ≤ gb292)); have n12_ := Aside0.mk ((by rw [hg]; exact Nat.ne_of_lt (blk_lt (g := gb263) (o := .cells #[.int .i64 a0_0, .int .i64 a0_1, .slice A0_2 l0_2.length c0_2, .slice A0_3 l0_3.length c0_3, .slice A0_4 l0_4.length c0_4] 24 (0, 0)) (by (with_reducible repeat (first | refine blk_drewN ?_ _ | refine blk_drew ?_ | refine blk_alloc ?_ _)); exact BK263.out)) : gb263 ≠ gb292)); have n13_ := Aside0.mk ((by rw [hg]; exact Nat.ne_of_gt (blk_lt (g := gb263) (o := .cells #[.int .i64 a0_0, .int .i64 a0_1, .slice A0_2 l0_2.length c0_2, .slice A0_3 l0_3.length c0_3, .slice A0_4 l0_4.length c0_4] 24 (0, 0)) (by (with_reducible repeat (first | refine blk_drewN ?_ _ | refine blk_drew ?_ | refine blk_alloc ?_ _)); exact BK263.out)) : gb292 ≠ gb263)); have n14_ := Aside0.mk ((by rw [hg]; exact Nat.ne_of_lt (blk_lt (g := gb279) (o := .cells #[.int .i64 t267, .int .i64 t268, .slice Ao60 t269.length co60, .slice Ao61 t272.length co61, .slice Ao62 t275.length co62] 24 (0, 0)) (by (with_reducible repeat (first | refine blk_drewN ?_ _ | refine blk_drew ?_ | refine blk_alloc ?_ _)); exact BK279.out)) : gb279 ≠ gb292)); have n15_ := Aside0.mk ((by rw [hg]; exact Nat.ne_of_gt (blk_lt (g := gb279) (o := .cells #[.int .i64 t267, .int .i64 t268, .slice Ao60 t269.length co60, .slice Ao61 t272.length co61, .slice Ao62 t275.length co62] 24 (0, 0)) (by (with_reducible repeat (first | refine blk_drewN ?_ _ | refine blk_drew ?_ | refine blk_alloc ?_ _)); exact BK279.out)) : gb292 ≠ gb279)); clear HO271; clear HO274; clear HO277; clear HO284; clear HO287; clear HO290; clear BK263; clear BK279; clear HB; have HO271 := n0_; have HO274 := n1_; have HO277 := n2_; have HO284 := n3_; have HO287 := n4_; have HO290 := n5_; have BK263 := n6_; have BK279 := n7_; have HB := n8_; have BK292 := n9_; have GW292 := n10_; have GE292 := n11_; have NB263_292 := n12_; have NB292_263 := n13_; have NB279_292 := n14_; have NB292_279 := n15_; clear n0_ n1_ n2_ n3_ n4_ n5_ n6_ n7_ n8_ n9_ n10_ n11_ n12_ n13_ n14_ n15_; clear hb hbox hg; have hnb66 := NB292_263.out; have hnc66 := NB263_292.out; have hnb67 := NB292_279.out; have hnc67 := NB279_292.out; have hcz68_0 : w65.cell? ⟨gb292, 0, none⟩ = some (.int .i64 0) := (blk_cell BK292.out 0).trans rfl; have hcz68_1 : w65.cell? ⟨gb292, 1, none⟩ = some (.int .i64 0) := (blk_cell BK292.out 1).trans rfl; have hcz68_2 : w65.cell? ⟨gb292, 2, none⟩ = some (.slice none 0 0) := (blk_cell BK292.out 2).trans rfl; have hcz68_3 : w65.cell? ⟨gb292, 3, none⟩ = some (.slice none 0 0) := (blk_cell BK292.out 3).trans rfl; have hcz68_4 : w65.cell? ⟨gb292, 4, none⟩ = some (.slice none 0 0) := (blk_cell BK292.out 4).trans rfl; have hfz68_0 := blk_frozen BK292.out 0; have hfz68_1 := blk_frozen BK292.out 1; have hfz68_2 := blk_frozen BK292.out 2; have hfz68_3 := blk_frozen BK292.out 3; have hfz68_4 := blk_frozen BK292.out 4; obtain ⟨Ao69, co69, eo69⟩ := Kd.R_slice HO284.out; subst eo69; obtain ⟨Ao70, co70, eo70⟩ := Kd.R_slice HO287.out; subst eo70; obtain ⟨Ao71, co71, eo71⟩ := Kd.R_slice HO290.out; subst eo71))
        (try simp only [Act.put, List.setIfInBounds_toArray, List.set_cons_zero, List.set_cons_succ])
        go_cut [81] (fun v81 wc => ∃ (kq : Nat) (x81_53 : Bool), v81 = .bool x81_53 ∧ Aside0 (cutroomlaw08_MotionStill.j1 kq a1 a2 a3 a4 x81_53 a0_0 a0_1 l0_2 l0_3 l0_4 = some r) ∧ Aside0 (kq ≤ kj5) ∧ Aside0 (Kd.R (Kd.int .u8) 5 wc w.heap.size (fun k_ => some k_ ≠ ((.slice Ao61 t272.length co61) : Value).ownBlock ∧ some k_ ≠ ((.slice Ao62 t275.length co62) : Value).ownBlock ∧ some k_ ≠ ((.slice Ao69 t282.length co69) : Value).ownBlock ∧ some k_ ≠ ((.slice Ao70 t285.length co70) : Value).ownBlock ∧ some k_ ≠ ((.slice Ao71 t288.length co71) : Value).ownBlock) (.slice Ao60 t269.length co60) t269) ∧ Aside0 (Kd.R (Kd.int .u8) 5 wc w.heap.size (fun k_ => some k_ ≠ ((.slice Ao60 t269.length co60) : Value).ownBlock ∧ some k_ ≠ ((.slice Ao62 t275.length co62) : Value).ownBlock ∧ some k_ ≠ ((.slice Ao69 t282.length co69) : Value).ownBlock ∧ some k_ ≠ ((.slice Ao70 t285.length co70) : Value).ownBlock ∧ some k_ ≠ ((.slice Ao71 t288.length co71) : Value).ownBlock) (.slice Ao61 t272.length co61) t272) ∧ Aside0 (Kd.R (Kd.int .u8) 5 wc w.heap.size (fun k_ => some k_ ≠ ((.slice Ao60 t269.length co60) : Value).ownBlock ∧ some k_ ≠ ((.slice Ao61 t272.length co61) : Value).ownBlock ∧ some k_ ≠ ((.slice Ao69 t282.length co69) : Value).ownBlock ∧ some k_ ≠ ((.slice Ao70 t285.length co70) : Value).ownBlock ∧ some k_ ≠ ((.slice Ao71 t288.length co71) : Value).ownBlock) (.slice Ao62 t275.length co62) t275) ∧ Aside0 (Kd.R (Kd.int .u8) 5 wc w.heap.size (fun k_ => some k_ ≠ ((.slice Ao60 t269.length co60) : Value).ownBlock ∧ some k_ ≠ ((.slice Ao61 t272.length co61) : Value).ownBlock ∧ some k_ ≠ ((.slice Ao62 t275.length co62) : Value).ownBlock ∧ some k_ ≠ ((.slice Ao70 t285.length co70) : Value).ownBlock ∧ some k_ ≠ ((.slice Ao71 t288.length co71) : Value).ownBlock) (.slice Ao69 t282.length co69) t282) ∧ Aside0 (Kd.R (Kd.int .u8) 5 wc w.heap.size (fun k_ => some k_ ≠ ((.slice Ao60 t269.length co60) : Value).ownBlock ∧ some k_ ≠ ((.slice Ao61 t272.length co61) : Value).ownBlock ∧ some k_ ≠ ((.slice Ao62 t275.length co62) : Value).ownBlock ∧ some k_ ≠ ((.slice Ao69 t282.length co69) : Value).ownBlock ∧ some k_ ≠ ((.slice Ao71 t288.length co71) : Value).ownBlock) (.slice Ao70 t285.length co70) t285) ∧ Aside0 (Kd.R (Kd.int .u8) 5 wc w.heap.size (fun k_ => some k_ ≠ ((.slice Ao60 t269.length co60) : Value).ownBlock ∧ some k_ ≠ ((.slice Ao61 t272.length co61) : Value).ownBlock ∧ some k_ ≠ ((.slice Ao62 t275.length co62) : Value).ownBlock ∧ some k_ ≠ ((.slice Ao69 t282.length co69) : Value).ownBlock ∧ some k_ ≠ ((.slice Ao70 t285.length co70) : Value).ownBlock) (.slice Ao71 t288.length co71) t288) ∧ Aside0 (wc.heap[gb263]? = some (.cells #[.int .i64 a0_0, .int .i64 a0_1, (.slice A0_2 l0_2.length c0_2), (.slice A0_3 l0_3.length c0_3), (.slice A0_4 l0_4.length c0_4)] 24 (0, 0))) ∧ Aside0 (wc.heap[gb279]? = some (.cells #[.int .i64 t267, .int .i64 t268, (.slice Ao60 t269.length co60), (.slice Ao61 t272.length co61), (.slice Ao62 t275.length co62)] 24 (0, 0))) ∧ Aside0 (wc.heap[gb292]? = some (.cells #[.int .i64 t280, .int .i64 t281, (.slice Ao69 t282.length co69), (.slice Ao70 t285.length co70), (.slice Ao71 t288.length co71)] 24 (0, 0))) ∧ Aside0 (Below w.heap.size w wc))
        case first =>
          have H := HC54.out
          clear HC54
          by_cases c72 : t278 = 0
          · rw [if_pos c72] at H
            have c72b0 : (t278 == 0) = true := beq_iff_eq.mpr c72
            have c72b1 : (t278 != 0) = false := bne_eq_false_iff_eq.mpr c72
            clear c72
            (first | rw [c72b0] | (simp only [i64_w, i32_w]; rw [c72b0]) | skip)
            replace H := Option.bind_eq_some_iff.mp H
            obtain ⟨t293, A730, H⟩ := H
            replace H : (cutroomlaw08_MotionStill.j1 kj5 a1 a2 a3 a4 (!t293) a0_0 a0_1 l0_2 l0_3 l0_4) = some r := H
            have A73 := Aside0.mk A730
            clear A730
            have H' := Aside0.mk H
            clear H
            have hnb74 := NB279_263.out
            have hnc74 := NB263_279.out
            have hnb75 := NB279_292.out
            have hnc75 := NB292_279.out
            have hcz76_0 : w65.cell? ⟨gb279, 0, none⟩ = some (.int .i64 t267) := (blk_cell BK279.out 0).trans rfl
            have hcz76_1 : w65.cell? ⟨gb279, 1, none⟩ = some (.int .i64 t268) := (blk_cell BK279.out 1).trans rfl
            have hcz76_2 : w65.cell? ⟨gb279, 2, none⟩ = some (.slice Ao60 t269.length co60) := (blk_cell BK279.out 2).trans rfl
            have hcz76_3 : w65.cell? ⟨gb279, 3, none⟩ = some (.slice Ao61 t272.length co61) := (blk_cell BK279.out 3).trans rfl
            have hcz76_4 : w65.cell? ⟨gb279, 4, none⟩ = some (.slice Ao62 t275.length co62) := (blk_cell BK279.out 4).trans rfl
            have hfz76_0 := blk_frozen BK279.out 0
            have hfz76_1 := blk_frozen BK279.out 1
            have hfz76_2 := blk_frozen BK279.out 2
            have hfz76_3 := blk_frozen BK279.out 3
            have hfz76_4 := blk_frozen BK279.out 4
            have hnb77 := NB292_263.out
            have hnc77 := NB263_292.out
            have hcz78_0 : w65.cell? ⟨gb292, 0, none⟩ = some (.int .i64 0) := (blk_cell BK292.out 0).trans rfl
            have hcz78_1 : w65.cell? ⟨gb292, 1, none⟩ = some (.int .i64 0) := (blk_cell BK292.out 1).trans rfl
            have hcz78_2 : w65.cell? ⟨gb292, 2, none⟩ = some (.slice none 0 0) := (blk_cell BK292.out 2).trans rfl
            have hcz78_3 : w65.cell? ⟨gb292, 3, none⟩ = some (.slice none 0 0) := (blk_cell BK292.out 3).trans rfl
            have hcz78_4 : w65.cell? ⟨gb292, 4, none⟩ = some (.slice none 0 0) := (blk_cell BK292.out 4).trans rfl
            have hfz78_0 := blk_frozen BK292.out 0
            have hfz78_1 := blk_frozen BK292.out 1
            have hfz78_2 := blk_frozen BK292.out 2
            have hfz78_3 := blk_frozen BK292.out 3
            have hfz78_4 := blk_frozen BK292.out 4
            go_wp2_with (first | (go_at_call 14; (with_reducible refine (cutroomref07_Equal.calls t267 t268 _ _ t269 _ _ t272 _ _ t275 t280 t281 _ _ t282 _ _ t285 _ _ t288 t293 _ ?side1 ?side2 ?side3 ?side4 ?side5 ?side6 ?side7 ?side8 ?side9 ?side10 ?side11 ?side12 A73.out).mono ?_); (case side1 => refine (Kd.R_reads' (e := 5) (base := w.heap.size) (ok := fun k_ => ((((some k_ ≠ (.slice Ao61 t272.length co61 : Value).ownBlock ∧ some k_ ≠ (.slice Ao62 t275.length co62 : Value).ownBlock) ∧ some k_ ≠ (.slice Ao69 t282.length co69 : Value).ownBlock) ∧ some k_ ≠ (.slice Ao70 t285.length co70 : Value).ownBlock) ∧ some k_ ≠ (.slice Ao71 t288.length co71 : Value).ownBlock)) (n := t269.length) (c := co60) ?_).2.2; exact (by (with_reducible repeat (first | apply Kd.R_alloc | apply Kd.R_drewN | apply Kd.R_drew)); exact (Kd.R_mono (Kd.R_far (p := ⟨gb292, 4, none⟩) (Kd.R_far (p := ⟨gb292, 3, none⟩) (Kd.R_far (p := ⟨gb292, 2, none⟩) (Kd.R_far (p := ⟨gb292, 1, none⟩) (Kd.R_far (p := ⟨gb292, 0, none⟩) (Kd.R_types HO271.out BK292.out (by decide)) (fun _ hk => hk.2) (.int .i64 t280)) (fun _ hk => hk.2) (.int .i64 t281)) (fun _ hk => hk.2) (.slice Ao69 t282.length co69)) (fun _ hk => hk.2) (.slice Ao70 t285.length co70)) (fun _ hk => hk.2) (.slice Ao71 t288.length co71)) (fun _ h_ => h_.1)))); (case side2 => exact (Kd.R_reads' HO271.out).2.1); (case side3 => refine (Kd.R_reads' (e := 5) (base := w.heap.size) (ok := fun k_ => ((((some k_ ≠ (.slice Ao60 t269.length co60 : Value).ownBlock ∧ some k_ ≠ (.slice Ao62 t275.length co62 : Value).ownBlock) ∧ some k_ ≠ (.slice Ao69 t282.length co69 : Value).ownBlock) ∧ some k_ ≠ (.slice Ao70 t285.length co70 : Value).ownBlock) ∧ some k_ ≠ (.slice Ao71 t288.length co71 : Value).ownBlock)) (n := t272.length) (c := co61) ?_).2.2; exact (by (with_reducible repeat (first | apply Kd.R_alloc | apply Kd.R_drewN | apply Kd.R_drew)); exact (Kd.R_mono (Kd.R_far (p := ⟨gb292, 4, none⟩) (Kd.R_far (p := ⟨gb292, 3, none⟩) (Kd.R_far (p := ⟨gb292, 2, none⟩) (Kd.R_far (p := ⟨gb292, 1, none⟩) (Kd.R_far (p := ⟨gb292, 0, none⟩) (Kd.R_types HO274.out BK292.out (by decide)) (fun _ hk => hk.2) (.int .i64 t280)) (fun _ hk => hk.2) (.int .i64 t281)) (fun _ hk => hk.2) (.slice Ao69 t282.length co69)) (fun _ hk => hk.2) (.slice Ao70 t285.length co70)) (fun _ hk => hk.2) (.slice Ao71 t288.length co71)) (fun _ h_ => h_.1)))); (case side4 => exact (Kd.R_reads' HO274.out).2.1); (case side5 => refine (Kd.R_reads' (e := 5) (base := w.heap.size) (ok := fun k_ => ((((some k_ ≠ (.slice Ao60 t269.length co60 : Value).ownBlock ∧ some k_ ≠ (.slice Ao61 t272.length co61 : Value).ownBlock) ∧ some k_ ≠ (.slice Ao69 t282.length co69 : Value).ownBlock) ∧ some k_ ≠ (.slice Ao70 t285.length co70 : Value).ownBlock) ∧ some k_ ≠ (.slice Ao71 t288.length co71 : Value).ownBlock)) (n := t275.length) (c := co62) ?_).2.2; exact (by (with_reducible repeat (first | apply Kd.R_alloc | apply Kd.R_drewN | apply Kd.R_drew)); exact (Kd.R_mono (Kd.R_far (p := ⟨gb292, 4, none⟩) (Kd.R_far (p := ⟨gb292, 3, none⟩) (Kd.R_far (p := ⟨gb292, 2, none⟩) (Kd.R_far (p := ⟨gb292, 1, none⟩) (Kd.R_far (p := ⟨gb292, 0, none⟩) (Kd.R_types HO277.out BK292.out (by decide)) (fun _ hk => hk.2) (.int .i64 t280)) (fun _ hk => hk.2) (.int .i64 t281)) (fun _ hk => hk.2) (.slice Ao69 t282.length co69)) (fun _ hk => hk.2) (.slice Ao70 t285.length co70)) (fun _ hk => hk.2) (.slice Ao71 t288.length co71)) (fun _ h_ => h_.1)))); (case side6 => exact (Kd.R_reads' HO277.out).2.1); (case side7 => refine (Kd.R_reads' (e := 5) (base := w.heap.size) (ok := fun k_ => ((((some k_ ≠ (.slice Ao70 t285.length co70 : Value).ownBlock ∧ some k_ ≠ (.slice Ao71 t288.length co71 : Value).ownBlock) ∧ some k_ ≠ (.slice Ao60 t269.length co60 : Value).ownBlock) ∧ some k_ ≠ (.slice Ao61 t272.length co61 : Value).ownBlock) ∧ some k_ ≠ (.slice Ao62 t275.length co62 : Value).ownBlock)) (n := t282.length) (c := co69) ?_).2.2; exact (by (with_reducible repeat (first | apply Kd.R_alloc | apply Kd.R_drewN | apply Kd.R_drew)); exact (Kd.R_mono (Kd.R_far (p := ⟨gb292, 4, none⟩) (Kd.R_far (p := ⟨gb292, 3, none⟩) (Kd.R_far (p := ⟨gb292, 2, none⟩) (Kd.R_far (p := ⟨gb292, 1, none⟩) (Kd.R_far (p := ⟨gb292, 0, none⟩) (Kd.R_types HO284.out BK292.out (by decide)) (fun _ hk => hk.2) (.int .i64 t280)) (fun _ hk => hk.2) (.int .i64 t281)) (fun _ hk => hk.2) (.slice Ao69 t282.length co69)) (fun _ hk => hk.2) (.slice Ao70 t285.length co70)) (fun _ hk => hk.2) (.slice Ao71 t288.length co71)) (fun _ h_ => h_.1)))); (case side8 => exact (Kd.R_reads' HO284.out).2.1); (case side9 => refine (Kd.R_reads' (e := 5) (base := w.heap.size) (ok := fun k_ => ((((some k_ ≠ (.slice Ao69 t282.length co69 : Value).ownBlock ∧ some k_ ≠ (.slice Ao71 t288.length co71 : Value).ownBlock) ∧ some k_ ≠ (.slice Ao60 t269.length co60 : Value).ownBlock) ∧ some k_ ≠ (.slice Ao61 t272.length co61 : Value).ownBlock) ∧ some k_ ≠ (.slice Ao62 t275.length co62 : Value).ownBlock)) (n := t285.length) (c := co70) ?_).2.2; exact (by (with_reducible repeat (first | apply Kd.R_alloc | apply Kd.R_drewN | apply Kd.R_drew)); exact (Kd.R_mono (Kd.R_far (p := ⟨gb292, 4, none⟩) (Kd.R_far (p := ⟨gb292, 3, none⟩) (Kd.R_far (p := ⟨gb292, 2, none⟩) (Kd.R_far (p := ⟨gb292, 1, none⟩) (Kd.R_far (p := ⟨gb292, 0, none⟩) (Kd.R_types HO287.out BK292.out (by decide)) (fun _ hk => hk.2) (.int .i64 t280)) (fun _ hk => hk.2) (.int .i64 t281)) (fun _ hk => hk.2) (.slice Ao69 t282.length co69)) (fun _ hk => hk.2) (.slice Ao70 t285.length co70)) (fun _ hk => hk.2) (.slice Ao71 t288.length co71)) (fun _ h_ => h_.1)))); (case side10 => exact (Kd.R_reads' HO287.out).2.1); (case side11 => refine (Kd.R_reads' (e := 5) (base := w.heap.size) (ok := fun k_ => ((((some k_ ≠ (.slice Ao69 t282.length co69 : Value).ownBlock ∧ some k_ ≠ (.slice Ao70 t285.length co70 : Value).ownBlock) ∧ some k_ ≠ (.slice Ao60 t269.length co60 : Value).ownBlock) ∧ some k_ ≠ (.slice Ao61 t272.length co61 : Value).ownBlock) ∧ some k_ ≠ (.slice Ao62 t275.length co62 : Value).ownBlock)) (n := t288.length) (c := co71) ?_).2.2; exact (by (with_reducible repeat (first | apply Kd.R_alloc | apply Kd.R_drewN | apply Kd.R_drew)); exact (Kd.R_mono (Kd.R_far (p := ⟨gb292, 4, none⟩) (Kd.R_far (p := ⟨gb292, 3, none⟩) (Kd.R_far (p := ⟨gb292, 2, none⟩) (Kd.R_far (p := ⟨gb292, 1, none⟩) (Kd.R_far (p := ⟨gb292, 0, none⟩) (Kd.R_types HO290.out BK292.out (by decide)) (fun _ hk => hk.2) (.int .i64 t280)) (fun _ hk => hk.2) (.int .i64 t281)) (fun _ hk => hk.2) (.slice Ao69 t282.length co69)) (fun _ hk => hk.2) (.slice Ao70 t285.length co70)) (fun _ hk => hk.2) (.slice Ao71 t288.length co71)) (fun _ h_ => h_.1)))); (case side12 => exact (Kd.R_reads' HO290.out).2.1); rintro e w79 ⟨rfl, hb⟩; have n0_ := Aside0.mk (Kd.R_below (by (with_reducible repeat (first | apply Kd.R_alloc | apply Kd.R_drewN | apply Kd.R_drew)); exact (Kd.R_mono (Kd.R_far (p := ⟨gb292, 4, none⟩) (Kd.R_far (p := ⟨gb292, 3, none⟩) (Kd.R_far (p := ⟨gb292, 2, none⟩) (Kd.R_far (p := ⟨gb292, 1, none⟩) (Kd.R_far (p := ⟨gb292, 0, none⟩) (Kd.R_types HO271.out BK292.out (by decide)) (fun _ hk => hk.2) (.int .i64 t280)) (fun _ hk => hk.2) (.int .i64 t281)) (fun _ hk => hk.2) (.slice Ao69 t282.length co69)) (fun _ hk => hk.2) (.slice Ao70 t285.length co70)) (fun _ hk => hk.2) (.slice Ao71 t288.length co71)) (fun _ h_ => h_.1))) hb); have n1_ := Aside0.mk (Kd.R_below (by (with_reducible repeat (first | apply Kd.R_alloc | apply Kd.R_drewN | apply Kd.R_drew)); exact (Kd.R_mono (Kd.R_far (p := ⟨gb292, 4, none⟩) (Kd.R_far (p := ⟨gb292, 3, none⟩) (Kd.R_far (p := ⟨gb292, 2, none⟩) (Kd.R_far (p := ⟨gb292, 1, none⟩) (Kd.R_far (p := ⟨gb292, 0, none⟩) (Kd.R_types HO274.out BK292.out (by decide)) (fun _ hk => hk.2) (.int .i64 t280)) (fun _ hk => hk.2) (.int .i64 t281)) (fun _ hk => hk.2) (.slice Ao69 t282.length co69)) (fun _ hk => hk.2) (.slice Ao70 t285.length co70)) (fun _ hk => hk.2) (.slice Ao71 t288.length co71)) (fun _ h_ => h_.1))) hb); have n2_ := Aside0.mk (Kd.R_below (by (with_reducible repeat (first | apply Kd.R_alloc | apply Kd.R_drewN | apply Kd.R_drew)); exact (Kd.R_mono (Kd.R_far (p := ⟨gb292, 4, none⟩) (Kd.R_far (p := ⟨gb292, 3, none⟩) (Kd.R_far (p := ⟨gb292, 2, none⟩) (Kd.R_far (p := ⟨gb292, 1, none⟩) (Kd.R_far (p := ⟨gb292, 0, none⟩) (Kd.R_types HO277.out BK292.out (by decide)) (fun _ hk => hk.2) (.int .i64 t280)) (fun _ hk => hk.2) (.int .i64 t281)) (fun _ hk => hk.2) (.slice Ao69 t282.length co69)) (fun _ hk => hk.2) (.slice Ao70 t285.length co70)) (fun _ hk => hk.2) (.slice Ao71 t288.length co71)) (fun _ h_ => h_.1))) hb); have n3_ := Aside0.mk (Kd.R_below (by (with_reducible repeat (first | apply Kd.R_alloc | apply Kd.R_drewN | apply Kd.R_drew)); exact (Kd.R_mono (Kd.R_far (p := ⟨gb292, 4, none⟩) (Kd.R_far (p := ⟨gb292, 3, none⟩) (Kd.R_far (p := ⟨gb292, 2, none⟩) (Kd.R_far (p := ⟨gb292, 1, none⟩) (Kd.R_far (p := ⟨gb292, 0, none⟩) (Kd.R_types HO284.out BK292.out (by decide)) (fun _ hk => hk.2) (.int .i64 t280)) (fun _ hk => hk.2) (.int .i64 t281)) (fun _ hk => hk.2) (.slice Ao69 t282.length co69)) (fun _ hk => hk.2) (.slice Ao70 t285.length co70)) (fun _ hk => hk.2) (.slice Ao71 t288.length co71)) (fun _ h_ => h_.1))) hb); have n4_ := Aside0.mk (Kd.R_below (by (with_reducible repeat (first | apply Kd.R_alloc | apply Kd.R_drewN | apply Kd.R_drew)); exact (Kd.R_mono (Kd.R_far (p := ⟨gb292, 4, none⟩) (Kd.R_far (p := ⟨gb292, 3, none⟩) (Kd.R_far (p := ⟨gb292, 2, none⟩) (Kd.R_far (p := ⟨gb292, 1, none⟩) (Kd.R_far (p := ⟨gb292, 0, none⟩) (Kd.R_types HO287.out BK292.out (by decide)) (fun _ hk => hk.2) (.int .i64 t280)) (fun _ hk => hk.2) (.int .i64 t281)) (fun _ hk => hk.2) (.slice Ao69 t282.length co69)) (fun _ hk => hk.2) (.slice Ao70 t285.length co70)) (fun _ hk => hk.2) (.slice Ao71 t288.length co71)) (fun _ h_ => h_.1))) hb); have n5_ := Aside0.mk (Kd.R_below (by (with_reducible repeat (first | apply Kd.R_alloc | apply Kd.R_drewN | apply Kd.R_drew)); exact (Kd.R_mono (Kd.R_far (p := ⟨gb292, 4, none⟩) (Kd.R_far (p := ⟨gb292, 3, none⟩) (Kd.R_far (p := ⟨gb292, 2, none⟩) (Kd.R_far (p := ⟨gb292, 1, none⟩) (Kd.R_far (p := ⟨gb292, 0, none⟩) (Kd.R_types HO290.out BK292.out (by decide)) (fun _ hk => hk.2) (.int .i64 t280)) (fun _ hk => hk.2) (.int .i64 t281)) (fun _ hk => hk.2) (.slice Ao69 t282.length co69)) (fun _ hk => hk.2) (.slice Ao70 t285.length co70)) (fun _ hk => hk.2) (.slice Ao71 t288.length co71)) (fun _ h_ => h_.1))) hb); have n6_ := Aside0.mk (blk_below (g := gb263) (o := .cells #[.int .i64 a0_0, .int .i64 a0_1, .slice A0_2 l0_2.length c0_2, .slice A0_3 l0_3.length c0_3, .slice A0_4 l0_4.length c0_4] 24 (0, 0)) (by (with_reducible repeat (first | refine blk_drewN ?_ _ | refine blk_drew ?_ | refine blk_alloc ?_ _)); refine blk_far ?_ NB263_292.out _; (with_reducible repeat (first | refine blk_drewN ?_ _ | refine blk_drew ?_ | refine blk_alloc ?_ _)); refine blk_far ?_ NB263_292.out _; (with_reducible repeat (first | refine blk_drewN ?_ _ | refine blk_drew ?_ | refine blk_alloc ?_ _)); refine blk_far ?_ NB263_292.out _; (with_reducible repeat (first | refine blk_drewN ?_ _ | refine blk_drew ?_ | refine blk_alloc ?_ _)); refine blk_far ?_ NB263_292.out _; (with_reducible repeat (first | refine blk_drewN ?_ _ | refine blk_drew ?_ | refine blk_alloc ?_ _)); refine blk_far ?_ NB263_292.out _; (with_reducible repeat (first | refine blk_drewN ?_ _ | refine blk_drew ?_ | refine blk_alloc ?_ _)); exact BK263.out) hb); have n7_ := Aside0.mk (blk_below (g := gb279) (o := .cells #[.int .i64 t267, .int .i64 t268, .slice Ao60 t269.length co60, .slice Ao61 t272.length co61, .slice Ao62 t275.length co62] 24 (0, 0)) (by (with_reducible repeat (first | refine blk_drewN ?_ _ | refine blk_drew ?_ | refine blk_alloc ?_ _)); refine blk_far ?_ NB279_292.out _; (with_reducible repeat (first | refine blk_drewN ?_ _ | refine blk_drew ?_ | refine blk_alloc ?_ _)); refine blk_far ?_ NB279_292.out _; (with_reducible repeat (first | refine blk_drewN ?_ _ | refine blk_drew ?_ | refine blk_alloc ?_ _)); refine blk_far ?_ NB279_292.out _; (with_reducible repeat (first | refine blk_drewN ?_ _ | refine blk_drew ?_ | refine blk_alloc ?_ _)); refine blk_far ?_ NB279_292.out _; (with_reducible repeat (first | refine blk_drewN ?_ _ | refine blk_drew ?_ | refine blk_alloc ?_ _)); refine blk_far ?_ NB279_292.out _; (with_reducible repeat (first | refine blk_drewN ?_ _ | refine blk_drew ?_ | refine blk_alloc ?_ _)); exact BK279.out) hb); have n8_ := Aside0.mk (blk_below (g := gb292) (o := .cells #[.int .i64 t280, .int .i64 t281, .slice Ao69 t282.length co69, .slice Ao70 t285.length co70, .slice Ao71 t288.length co71] 24 (0, 0)) (by (with_reducible repeat (first | refine blk_drewN ?_ _ | refine blk_drew ?_ | refine blk_alloc ?_ _)); refine blk_put (cs := #[.int .i64 t280, .int .i64 t281, .slice Ao69 t282.length co69, .slice Ao70 t285.length co70, .slice none 0 0]) ?_ 4 _ rfl; (with_reducible repeat (first | refine blk_drewN ?_ _ | refine blk_drew ?_ | refine blk_alloc ?_ _)); refine blk_put (cs := #[.int .i64 t280, .int .i64 t281, .slice Ao69 t282.length co69, .slice none 0 0, .slice none 0 0]) ?_ 3 _ rfl; (with_reducible repeat (first | refine blk_drewN ?_ _ | refine blk_drew ?_ | refine blk_alloc ?_ _)); refine blk_put (cs := #[.int .i64 t280, .int .i64 t281, .slice none 0 0, .slice none 0 0, .slice none 0 0]) ?_ 2 _ rfl; (with_reducible repeat (first | refine blk_drewN ?_ _ | refine blk_drew ?_ | refine blk_alloc ?_ _)); refine blk_put (cs := #[.int .i64 t280, .int .i64 0, .slice none 0 0, .slice none 0 0, .slice none 0 0]) ?_ 1 _ rfl; (with_reducible repeat (first | refine blk_drewN ?_ _ | refine blk_drew ?_ | refine blk_alloc ?_ _)); refine blk_put (cs := #[.int .i64 0, .int .i64 0, .slice none 0 0, .slice none 0 0, .slice none 0 0]) ?_ 0 _ rfl; (with_reducible repeat (first | refine blk_drewN ?_ _ | refine blk_drew ?_ | refine blk_alloc ?_ _)); exact BK292.out) hb); have n9_ := Aside0.mk (below_step (by repeat (first | (with_reducible first | exact HB.out | apply below_alloc | apply pw_below_drewN | apply below_drew1 | refine below_set ?_ GE263.out | refine below_set ?_ GE279.out | refine below_set ?_ GE292.out) | exact HB.out)) hb); clear HO271; clear HO274; clear HO277; clear HO284; clear HO287; clear HO290; clear BK263; clear BK279; clear BK292; clear HB; have HO271 := n0_; have HO274 := n1_; have HO277 := n2_; have HO284 := n3_; have HO287 := n4_; have HO290 := n5_; have BK263 := n6_; have BK279 := n7_; have BK292 := n8_; have HB := n9_; clear n0_ n1_ n2_ n3_ n4_ n5_ n6_ n7_ n8_ n9_; (try clear hb); (try clear hb2); (try clear hk); (try clear hi)))
            go_meet
            case rel => exact ⟨_, (!t293), (by first | rfl | (simp; done) | (simp [*]; done)), H', ⟨by have := HJ5.out; first | omega | exact Nat.le_refl _⟩, ⟨by (with_reducible repeat (first | apply Kd.R_alloc | apply Kd.R_drewN | apply Kd.R_drew)); exact Kd.R_mono HO271.out (fun _ hk => ⟨hk.1.1.1.1, ⟨hk.1.1.1.2, ⟨hk.1.1.2, ⟨hk.1.2, hk.2⟩⟩⟩⟩)⟩, ⟨by (with_reducible repeat (first | apply Kd.R_alloc | apply Kd.R_drewN | apply Kd.R_drew)); exact Kd.R_mono HO274.out (fun _ hk => ⟨hk.1.1.1.1, ⟨hk.1.1.1.2, ⟨hk.1.1.2, ⟨hk.1.2, hk.2⟩⟩⟩⟩)⟩, ⟨by (with_reducible repeat (first | apply Kd.R_alloc | apply Kd.R_drewN | apply Kd.R_drew)); exact Kd.R_mono HO277.out (fun _ hk => ⟨hk.1.1.1.1, ⟨hk.1.1.1.2, ⟨hk.1.1.2, ⟨hk.1.2, hk.2⟩⟩⟩⟩)⟩, ⟨by (with_reducible repeat (first | apply Kd.R_alloc | apply Kd.R_drewN | apply Kd.R_drew)); exact Kd.R_mono HO284.out (fun _ hk => ⟨hk.1.1.2, ⟨hk.1.2, ⟨hk.2, ⟨hk.1.1.1.1, hk.1.1.1.2⟩⟩⟩⟩)⟩, ⟨by (with_reducible repeat (first | apply Kd.R_alloc | apply Kd.R_drewN | apply Kd.R_drew)); exact Kd.R_mono HO287.out (fun _ hk => ⟨hk.1.1.2, ⟨hk.1.2, ⟨hk.2, ⟨hk.1.1.1.1, hk.1.1.1.2⟩⟩⟩⟩)⟩, ⟨by (with_reducible repeat (first | apply Kd.R_alloc | apply Kd.R_drewN | apply Kd.R_drew)); exact Kd.R_mono HO290.out (fun _ hk => ⟨hk.1.1.2, ⟨hk.1.2, ⟨hk.2, ⟨hk.1.1.1.1, hk.1.1.1.2⟩⟩⟩⟩)⟩, ⟨by (with_reducible repeat (first | refine blk_drewN ?_ _ | refine blk_drew ?_ | refine blk_alloc ?_ _)); exact BK263.out⟩, ⟨by (with_reducible repeat (first | refine blk_drewN ?_ _ | refine blk_drew ?_ | refine blk_alloc ?_ _)); exact BK279.out⟩, ⟨by (with_reducible repeat (first | refine blk_drewN ?_ _ | refine blk_drew ?_ | refine blk_alloc ?_ _)); exact BK292.out⟩, ⟨by repeat (first | (with_reducible first | exact HB.out | apply below_alloc | apply pw_below_drewN | apply below_drew1 | refine below_set ?_ GE263.out | refine below_set ?_ GE279.out | refine below_set ?_ GE292.out) | exact HB.out)⟩⟩
          · rw [if_neg c72] at H
            have c72b0 : (t278 == 0) = false := beq_eq_false_iff_ne.mpr c72
            have c72b1 : (t278 != 0) = true := bne_iff_ne.mpr c72
            (first | rw [c72b0] | (simp only [i64_w, i32_w]; rw [c72b0]) | skip)
            have H' := Aside0.mk H
            clear H
            go_wp2
            go_meet
            case rel => exact ⟨_, (true), (by first | rfl | (simp; done) | (simp [*]; done)), H', ⟨by have := HJ5.out; first | omega | exact Nat.le_refl _⟩, ⟨by (with_reducible repeat (first | apply Kd.R_alloc | apply Kd.R_drewN | apply Kd.R_drew)); exact Kd.R_mono (Kd.R_far (p := ⟨gb292, 4, none⟩) (Kd.R_far (p := ⟨gb292, 3, none⟩) (Kd.R_far (p := ⟨gb292, 2, none⟩) (Kd.R_far (p := ⟨gb292, 1, none⟩) (Kd.R_far (p := ⟨gb292, 0, none⟩) (Kd.R_types HO271.out BK292.out (by decide)) (fun _ hk => hk.2) (.int .i64 t280)) (fun _ hk => hk.2) (.int .i64 t281)) (fun _ hk => hk.2) (.slice Ao69 t282.length co69)) (fun _ hk => hk.2) (.slice Ao70 t285.length co70)) (fun _ hk => hk.2) (.slice Ao71 t288.length co71)) (fun _ hk => ⟨hk.1.1.1.1.1, ⟨hk.1.1.1.1.2, ⟨hk.1.1.1.2, ⟨hk.1.1.2, hk.1.2⟩⟩⟩⟩)⟩, ⟨by (with_reducible repeat (first | apply Kd.R_alloc | apply Kd.R_drewN | apply Kd.R_drew)); exact Kd.R_mono (Kd.R_far (p := ⟨gb292, 4, none⟩) (Kd.R_far (p := ⟨gb292, 3, none⟩) (Kd.R_far (p := ⟨gb292, 2, none⟩) (Kd.R_far (p := ⟨gb292, 1, none⟩) (Kd.R_far (p := ⟨gb292, 0, none⟩) (Kd.R_types HO274.out BK292.out (by decide)) (fun _ hk => hk.2) (.int .i64 t280)) (fun _ hk => hk.2) (.int .i64 t281)) (fun _ hk => hk.2) (.slice Ao69 t282.length co69)) (fun _ hk => hk.2) (.slice Ao70 t285.length co70)) (fun _ hk => hk.2) (.slice Ao71 t288.length co71)) (fun _ hk => ⟨hk.1.1.1.1.1, ⟨hk.1.1.1.1.2, ⟨hk.1.1.1.2, ⟨hk.1.1.2, hk.1.2⟩⟩⟩⟩)⟩, ⟨by (with_reducible repeat (first | apply Kd.R_alloc | apply Kd.R_drewN | apply Kd.R_drew)); exact Kd.R_mono (Kd.R_far (p := ⟨gb292, 4, none⟩) (Kd.R_far (p := ⟨gb292, 3, none⟩) (Kd.R_far (p := ⟨gb292, 2, none⟩) (Kd.R_far (p := ⟨gb292, 1, none⟩) (Kd.R_far (p := ⟨gb292, 0, none⟩) (Kd.R_types HO277.out BK292.out (by decide)) (fun _ hk => hk.2) (.int .i64 t280)) (fun _ hk => hk.2) (.int .i64 t281)) (fun _ hk => hk.2) (.slice Ao69 t282.length co69)) (fun _ hk => hk.2) (.slice Ao70 t285.length co70)) (fun _ hk => hk.2) (.slice Ao71 t288.length co71)) (fun _ hk => ⟨hk.1.1.1.1.1, ⟨hk.1.1.1.1.2, ⟨hk.1.1.1.2, ⟨hk.1.1.2, hk.1.2⟩⟩⟩⟩)⟩, ⟨by (with_reducible repeat (first | apply Kd.R_alloc | apply Kd.R_drewN | apply Kd.R_drew)); exact Kd.R_mono (Kd.R_far (p := ⟨gb292, 4, none⟩) (Kd.R_far (p := ⟨gb292, 3, none⟩) (Kd.R_far (p := ⟨gb292, 2, none⟩) (Kd.R_far (p := ⟨gb292, 1, none⟩) (Kd.R_far (p := ⟨gb292, 0, none⟩) (Kd.R_types HO284.out BK292.out (by decide)) (fun _ hk => hk.2) (.int .i64 t280)) (fun _ hk => hk.2) (.int .i64 t281)) (fun _ hk => hk.2) (.slice Ao69 t282.length co69)) (fun _ hk => hk.2) (.slice Ao70 t285.length co70)) (fun _ hk => hk.2) (.slice Ao71 t288.length co71)) (fun _ hk => ⟨hk.1.1.1.2, ⟨hk.1.1.2, ⟨hk.1.2, ⟨hk.1.1.1.1.1, hk.1.1.1.1.2⟩⟩⟩⟩)⟩, ⟨by (with_reducible repeat (first | apply Kd.R_alloc | apply Kd.R_drewN | apply Kd.R_drew)); exact Kd.R_mono (Kd.R_far (p := ⟨gb292, 4, none⟩) (Kd.R_far (p := ⟨gb292, 3, none⟩) (Kd.R_far (p := ⟨gb292, 2, none⟩) (Kd.R_far (p := ⟨gb292, 1, none⟩) (Kd.R_far (p := ⟨gb292, 0, none⟩) (Kd.R_types HO287.out BK292.out (by decide)) (fun _ hk => hk.2) (.int .i64 t280)) (fun _ hk => hk.2) (.int .i64 t281)) (fun _ hk => hk.2) (.slice Ao69 t282.length co69)) (fun _ hk => hk.2) (.slice Ao70 t285.length co70)) (fun _ hk => hk.2) (.slice Ao71 t288.length co71)) (fun _ hk => ⟨hk.1.1.1.2, ⟨hk.1.1.2, ⟨hk.1.2, ⟨hk.1.1.1.1.1, hk.1.1.1.1.2⟩⟩⟩⟩)⟩, ⟨by (with_reducible repeat (first | apply Kd.R_alloc | apply Kd.R_drewN | apply Kd.R_drew)); exact Kd.R_mono (Kd.R_far (p := ⟨gb292, 4, none⟩) (Kd.R_far (p := ⟨gb292, 3, none⟩) (Kd.R_far (p := ⟨gb292, 2, none⟩) (Kd.R_far (p := ⟨gb292, 1, none⟩) (Kd.R_far (p := ⟨gb292, 0, none⟩) (Kd.R_types HO290.out BK292.out (by decide)) (fun _ hk => hk.2) (.int .i64 t280)) (fun _ hk => hk.2) (.int .i64 t281)) (fun _ hk => hk.2) (.slice Ao69 t282.length co69)) (fun _ hk => hk.2) (.slice Ao70 t285.length co70)) (fun _ hk => hk.2) (.slice Ao71 t288.length co71)) (fun _ hk => ⟨hk.1.1.1.2, ⟨hk.1.1.2, ⟨hk.1.2, ⟨hk.1.1.1.1.1, hk.1.1.1.1.2⟩⟩⟩⟩)⟩, ⟨by (with_reducible repeat (first | refine blk_drewN ?_ _ | refine blk_drew ?_ | refine blk_alloc ?_ _)); refine blk_far ?_ NB263_292.out _; (with_reducible repeat (first | refine blk_drewN ?_ _ | refine blk_drew ?_ | refine blk_alloc ?_ _)); refine blk_far ?_ NB263_292.out _; (with_reducible repeat (first | refine blk_drewN ?_ _ | refine blk_drew ?_ | refine blk_alloc ?_ _)); refine blk_far ?_ NB263_292.out _; (with_reducible repeat (first | refine blk_drewN ?_ _ | refine blk_drew ?_ | refine blk_alloc ?_ _)); refine blk_far ?_ NB263_292.out _; (with_reducible repeat (first | refine blk_drewN ?_ _ | refine blk_drew ?_ | refine blk_alloc ?_ _)); refine blk_far ?_ NB263_292.out _; (with_reducible repeat (first | refine blk_drewN ?_ _ | refine blk_drew ?_ | refine blk_alloc ?_ _)); exact BK263.out⟩, ⟨by (with_reducible repeat (first | refine blk_drewN ?_ _ | refine blk_drew ?_ | refine blk_alloc ?_ _)); refine blk_far ?_ NB279_292.out _; (with_reducible repeat (first | refine blk_drewN ?_ _ | refine blk_drew ?_ | refine blk_alloc ?_ _)); refine blk_far ?_ NB279_292.out _; (with_reducible repeat (first | refine blk_drewN ?_ _ | refine blk_drew ?_ | refine blk_alloc ?_ _)); refine blk_far ?_ NB279_292.out _; (with_reducible repeat (first | refine blk_drewN ?_ _ | refine blk_drew ?_ | refine blk_alloc ?_ _)); refine blk_far ?_ NB279_292.out _; (with_reducible repeat (first | refine blk_drewN ?_ _ | refine blk_drew ?_ | refine blk_alloc ?_ _)); refine blk_far ?_ NB279_292.out _; (with_reducible repeat (first | refine blk_drewN ?_ _ | refine blk_drew ?_ | refine blk_alloc ?_ _)); exact BK279.out⟩, ⟨by (with_reducible repeat (first | refine blk_drewN ?_ _ | refine blk_drew ?_ | refine blk_alloc ?_ _)); refine blk_put (cs := #[.int .i64 t280, .int .i64 t281, .slice Ao69 t282.length co69, .slice Ao70 t285.length co70, .slice none 0 0]) ?_ 4 _ rfl; (with_reducible repeat (first | refine blk_drewN ?_ _ | refine blk_drew ?_ | refine blk_alloc ?_ _)); refine blk_put (cs := #[.int .i64 t280, .int .i64 t281, .slice Ao69 t282.length co69, .slice none 0 0, .slice none 0 0]) ?_ 3 _ rfl; (with_reducible repeat (first | refine blk_drewN ?_ _ | refine blk_drew ?_ | refine blk_alloc ?_ _)); refine blk_put (cs := #[.int .i64 t280, .int .i64 t281, .slice none 0 0, .slice none 0 0, .slice none 0 0]) ?_ 2 _ rfl; (with_reducible repeat (first | refine blk_drewN ?_ _ | refine blk_drew ?_ | refine blk_alloc ?_ _)); refine blk_put (cs := #[.int .i64 t280, .int .i64 0, .slice none 0 0, .slice none 0 0, .slice none 0 0]) ?_ 1 _ rfl; (with_reducible repeat (first | refine blk_drewN ?_ _ | refine blk_drew ?_ | refine blk_alloc ?_ _)); refine blk_put (cs := #[.int .i64 0, .int .i64 0, .slice none 0 0, .slice none 0 0, .slice none 0 0]) ?_ 0 _ rfl; (with_reducible repeat (first | refine blk_drewN ?_ _ | refine blk_drew ?_ | refine blk_alloc ?_ _)); exact BK292.out⟩, ⟨by repeat (first | (with_reducible first | exact HB.out | apply below_alloc | apply pw_below_drewN | apply below_drew1 | refine below_set ?_ GE263.out | refine below_set ?_ GE279.out | refine below_set ?_ GE292.out) | exact HB.out)⟩⟩
        case rest =>
          clear HC54
          try clear c1
          try clear c2
          try clear p2
          try clear c3
          try clear c4
          try clear c5
          try clear c6
          try clear p6
          try clear c7
          try clear c9
          try clear c10
          try clear c11
          try clear c12
          try clear c12b0
          try clear c13
          try clear c15
          try clear c17
          try clear c17b0
          try clear c18
          try clear c22
          try clear c22b0
          try clear c27
          try clear c27b0
          try clear c32
          try clear c32b0
          try clear c49
          try clear c58
          try clear p64
          try clear c66
          try clear c67
          try clear c72
          try clear c72b0
          try clear c72b1
          try clear c74
          try clear c75
          try clear c77
          try clear hcz13_0
          try clear hcz13_1
          try clear hcz13_2
          try clear hcz13_3
          try clear hcz13_4
          try clear hcz15_0
          try clear hcz15_1
          try clear hcz15_2
          try clear hcz15_3
          try clear hcz15_4
          try clear hcz18_0
          try clear hcz18_1
          try clear hcz18_2
          try clear hcz18_3
          try clear hcz18_4
          try clear hcz20_0
          try clear hcz20_1
          try clear hcz20_2
          try clear hcz20_3
          try clear hcz20_4
          try clear hcz23_0
          try clear hcz23_1
          try clear hcz23_2
          try clear hcz23_3
          try clear hcz23_4
          try clear hcz25_0
          try clear hcz25_1
          try clear hcz25_2
          try clear hcz25_3
          try clear hcz25_4
          try clear hcz28_0
          try clear hcz28_1
          try clear hcz28_2
          try clear hcz28_3
          try clear hcz28_4
          try clear hcz30_0
          try clear hcz30_1
          try clear hcz30_2
          try clear hcz30_3
          try clear hcz30_4
          try clear hcz33_0
          try clear hcz33_1
          try clear hcz33_2
          try clear hcz33_3
          try clear hcz33_4
          try clear hcz35_0
          try clear hcz35_1
          try clear hcz35_2
          try clear hcz35_3
          try clear hcz35_4
          try clear hcz37_0
          try clear hcz37_1
          try clear hcz37_2
          try clear hcz37_3
          try clear hcz37_4
          try clear hcz38_0
          try clear hcz38_1
          try clear hcz38_2
          try clear hcz38_3
          try clear hcz38_4
          try clear hcz40_0
          try clear hcz40_1
          try clear hcz40_2
          try clear hcz40_3
          try clear hcz40_4
          try clear hcz42_0
          try clear hcz42_1
          try clear hcz42_2
          try clear hcz42_3
          try clear hcz42_4
          try clear hcz43_0
          try clear hcz43_1
          try clear hcz43_2
          try clear hcz43_3
          try clear hcz43_4
          try clear hcz45_0
          try clear hcz45_1
          try clear hcz45_2
          try clear hcz45_3
          try clear hcz45_4
          try clear hcz47_0
          try clear hcz47_1
          try clear hcz47_2
          try clear hcz47_3
          try clear hcz47_4
          try clear hcz55_0
          try clear hcz55_1
          try clear hcz55_2
          try clear hcz55_3
          try clear hcz55_4
          try clear hcz59_0
          try clear hcz59_1
          try clear hcz59_2
          try clear hcz59_3
          try clear hcz59_4
          try clear hcz63_0
          try clear hcz63_1
          try clear hcz63_2
          try clear hcz63_3
          try clear hcz63_4
          try clear hcz68_0
          try clear hcz68_1
          try clear hcz68_2
          try clear hcz68_3
          try clear hcz68_4
          try clear hcz76_0
          try clear hcz76_1
          try clear hcz76_2
          try clear hcz76_3
          try clear hcz76_4
          try clear hcz78_0
          try clear hcz78_1
          try clear hcz78_2
          try clear hcz78_3
          try clear hcz78_4
          try clear hfz13_0
          try clear hfz13_1
          try clear hfz13_2
          try clear hfz13_3
          try clear hfz13_4
          try clear hfz15_0
          try clear hfz15_1
          try clear hfz15_2
          try clear hfz15_3
          try clear hfz15_4
          try clear hfz18_0
          try clear hfz18_1
          try clear hfz18_2
          try clear hfz18_3
          try clear hfz18_4
          try clear hfz20_0
          try clear hfz20_1
          try clear hfz20_2
          try clear hfz20_3
          try clear hfz20_4
          try clear hfz23_0
          try clear hfz23_1
          try clear hfz23_2
          try clear hfz23_3
          try clear hfz23_4
          try clear hfz25_0
          try clear hfz25_1
          try clear hfz25_2
          try clear hfz25_3
          try clear hfz25_4
          try clear hfz28_0
          try clear hfz28_1
          try clear hfz28_2
          try clear hfz28_3
          try clear hfz28_4
          try clear hfz30_0
          try clear hfz30_1
          try clear hfz30_2
          try clear hfz30_3
          try clear hfz30_4
          try clear hfz33_0
          try clear hfz33_1
          try clear hfz33_2
          try clear hfz33_3
          try clear hfz33_4
          try clear hfz35_0
          try clear hfz35_1
          try clear hfz35_2
          try clear hfz35_3
          try clear hfz35_4
          try clear hfz37_0
          try clear hfz37_1
          try clear hfz37_2
          try clear hfz37_3
          try clear hfz37_4
          try clear hfz38_0
          try clear hfz38_1
          try clear hfz38_2
          try clear hfz38_3
          try clear hfz38_4
          try clear hfz40_0
          try clear hfz40_1
          try clear hfz40_2
          try clear hfz40_3
          try clear hfz40_4
          try clear hfz42_0
          try clear hfz42_1
          try clear hfz42_2
          try clear hfz42_3
          try clear hfz42_4
          try clear hfz43_0
          try clear hfz43_1
          try clear hfz43_2
          try clear hfz43_3
          try clear hfz43_4
          try clear hfz45_0
          try clear hfz45_1
          try clear hfz45_2
          try clear hfz45_3
          try clear hfz45_4
          try clear hfz47_0
          try clear hfz47_1
          try clear hfz47_2
          try clear hfz47_3
          try clear hfz47_4
          try clear hfz55_0
          try clear hfz55_1
          try clear hfz55_2
          try clear hfz55_3
          try clear hfz55_4
          try clear hfz59_0
          try clear hfz59_1
          try clear hfz59_2
          try clear hfz59_3
          try clear hfz59_4
          try clear hfz63_0
          try clear hfz63_1
          try clear hfz63_2
          try clear hfz63_3
          try clear hfz63_4
          try clear hfz68_0
          try clear hfz68_1
          try clear hfz68_2
          try clear hfz68_3
          try clear hfz68_4
          try clear hfz76_0
          try clear hfz76_1
          try clear hfz76_2
          try clear hfz76_3
          try clear hfz76_4
          try clear hfz78_0
          try clear hfz78_1
          try clear hfz78_2
          try clear hfz78_3
          try clear hfz78_4
          try clear p2
          try clear p6
          obtain ⟨kq, x81_53, rfl, HA, HJ53, HO_280002, HO_280003, HO_280004, HO_293002, HO_293003, HO_293004, BK263, BK279, BK292, HB⟩ := hcut
          cases kq with
          | zero => exact absurd HA.out (by simp [cutroomlaw08_MotionStill.j1])
          | succ kj53 =>
            have H := HA.out
            clear HA
            simp only [cutroomlaw08_MotionStill.j1] at H
            by_cases c80 : x81_53 = true
            · subst c80
              have H1 : (some false) = some r := by rw [if_pos rfl] at H; exact H
              clear H
              have H := H1
              clear H1
              obtain rfl := Option.some.inj H
              go_wp2
              go_ret
              exact ⟨by first | rfl | (simp [errW_none, errW_some] <;> rfl) | (simp [*, errW_none, errW_some] <;> rfl), by repeat (first | (with_reducible first | exact HB.out | apply below_alloc | apply pw_below_drewN | apply below_drew1 | refine below_set ?_ GE263.out | refine below_set ?_ GE279.out | refine below_set ?_ GE292.out) | exact HB.out)⟩
            · replace c80 := Bool.eq_false_iff.mpr c80
              subst c80
              have H1 : (if a3 < (-15) then (cutroomlaw08_MotionStill.j2 kj53 a1 a2 a3 a4 true a0_0 a0_1 l0_2 l0_3 l0_4) else (if a3 > 15 then (cutroomlaw08_MotionStill.j2 kj53 a1 a2 a3 a4 true a0_0 a0_1 l0_2 l0_3 l0_4) else (if a4 < (-15) then (cutroomlaw08_MotionStill.j2 kj53 a1 a2 a3 a4 true a0_0 a0_1 l0_2 l0_3 l0_4) else (if a4 > 15 then (cutroomlaw08_MotionStill.j2 kj53 a1 a2 a3 a4 true a0_0 a0_1 l0_2 l0_3 l0_4) else (if (wrap64 ((wrap64 (16 * a1)) + (wrap64 (2 * a3)))) < 0 then (cutroomlaw08_MotionStill.j2 kj53 a1 a2 a3 a4 true a0_0 a0_1 l0_2 l0_3 l0_4) else (if (wrap64 ((wrap64 (16 * a2)) + (wrap64 (2 * a4)))) < 0 then (cutroomlaw08_MotionStill.j2 kj53 a1 a2 a3 a4 true a0_0 a0_1 l0_2 l0_3 l0_4) else (if (wrap64 ((wrap64 ((wrap64 (16 * a1)) + (wrap64 (2 * a3)))) + 16)) > a0_0 then (cutroomlaw08_MotionStill.j2 kj53 a1 a2 a3 a4 true a0_0 a0_1 l0_2 l0_3 l0_4) else (cutroomlaw08_MotionStill.j2 kj53 a1 a2 a3 a4 (decide ((wrap64 ((wrap64 ((wrap64 (16 * a2)) + (wrap64 (2 * a4)))) + 16)) > a0_1)) a0_0 a0_1 l0_2 l0_3 l0_4)))))))) = some r := by rw [if_neg (show ¬ (false = true) by decide)] at H; exact H
              clear H
              have H := H1
              clear H1
              have HC81 := Aside0.mk H
              clear H
              go_upto_region 7 with (fail)
              go_cut [133] (fun v133 wc => ∃ (kq : Nat) (x133_80 : Bool), v133 = .bool x133_80 ∧ Aside0 (cutroomlaw08_MotionStill.j2 kq a1 a2 a3 a4 x133_80 a0_0 a0_1 l0_2 l0_3 l0_4 = some r) ∧ Aside0 (kq ≤ kj53) ∧ Aside0 (Kd.R (Kd.int .u8) 5 wc w.heap.size (fun k_ => some k_ ≠ ((.slice Ao61 t272.length co61) : Value).ownBlock ∧ some k_ ≠ ((.slice Ao62 t275.length co62) : Value).ownBlock ∧ some k_ ≠ ((.slice Ao69 t282.length co69) : Value).ownBlock ∧ some k_ ≠ ((.slice Ao70 t285.length co70) : Value).ownBlock ∧ some k_ ≠ ((.slice Ao71 t288.length co71) : Value).ownBlock) (.slice Ao60 t269.length co60) t269) ∧ Aside0 (Kd.R (Kd.int .u8) 5 wc w.heap.size (fun k_ => some k_ ≠ ((.slice Ao60 t269.length co60) : Value).ownBlock ∧ some k_ ≠ ((.slice Ao62 t275.length co62) : Value).ownBlock ∧ some k_ ≠ ((.slice Ao69 t282.length co69) : Value).ownBlock ∧ some k_ ≠ ((.slice Ao70 t285.length co70) : Value).ownBlock ∧ some k_ ≠ ((.slice Ao71 t288.length co71) : Value).ownBlock) (.slice Ao61 t272.length co61) t272) ∧ Aside0 (Kd.R (Kd.int .u8) 5 wc w.heap.size (fun k_ => some k_ ≠ ((.slice Ao60 t269.length co60) : Value).ownBlock ∧ some k_ ≠ ((.slice Ao61 t272.length co61) : Value).ownBlock ∧ some k_ ≠ ((.slice Ao69 t282.length co69) : Value).ownBlock ∧ some k_ ≠ ((.slice Ao70 t285.length co70) : Value).ownBlock ∧ some k_ ≠ ((.slice Ao71 t288.length co71) : Value).ownBlock) (.slice Ao62 t275.length co62) t275) ∧ Aside0 (Kd.R (Kd.int .u8) 5 wc w.heap.size (fun k_ => some k_ ≠ ((.slice Ao60 t269.length co60) : Value).ownBlock ∧ some k_ ≠ ((.slice Ao61 t272.length co61) : Value).ownBlock ∧ some k_ ≠ ((.slice Ao62 t275.length co62) : Value).ownBlock ∧ some k_ ≠ ((.slice Ao70 t285.length co70) : Value).ownBlock ∧ some k_ ≠ ((.slice Ao71 t288.length co71) : Value).ownBlock) (.slice Ao69 t282.length co69) t282) ∧ Aside0 (Kd.R (Kd.int .u8) 5 wc w.heap.size (fun k_ => some k_ ≠ ((.slice Ao60 t269.length co60) : Value).ownBlock ∧ some k_ ≠ ((.slice Ao61 t272.length co61) : Value).ownBlock ∧ some k_ ≠ ((.slice Ao62 t275.length co62) : Value).ownBlock ∧ some k_ ≠ ((.slice Ao69 t282.length co69) : Value).ownBlock ∧ some k_ ≠ ((.slice Ao71 t288.length co71) : Value).ownBlock) (.slice Ao70 t285.length co70) t285) ∧ Aside0 (Kd.R (Kd.int .u8) 5 wc w.heap.size (fun k_ => some k_ ≠ ((.slice Ao60 t269.length co60) : Value).ownBlock ∧ some k_ ≠ ((.slice Ao61 t272.length co61) : Value).ownBlock ∧ some k_ ≠ ((.slice Ao62 t275.length co62) : Value).ownBlock ∧ some k_ ≠ ((.slice Ao69 t282.length co69) : Value).ownBlock ∧ some k_ ≠ ((.slice Ao70 t285.length co70) : Value).ownBlock) (.slice Ao71 t288.length co71) t288) ∧ Aside0 (wc.heap[gb263]? = some (.cells #[.int .i64 a0_0, .int .i64 a0_1, (.slice A0_2 l0_2.length c0_2), (.slice A0_3 l0_3.length c0_3), (.slice A0_4 l0_4.length c0_4)] 24 (0, 0))) ∧ Aside0 (wc.heap[gb279]? = some (.cells #[.int .i64 t267, .int .i64 t268, (.slice Ao60 t269.length co60), (.slice Ao61 t272.length co61), (.slice Ao62 t275.length co62)] 24 (0, 0))) ∧ Aside0 (wc.heap[gb292]? = some (.cells #[.int .i64 t280, .int .i64 t281, (.slice Ao69 t282.length co69), (.slice Ao70 t285.length co70), (.slice Ao71 t288.length co71)] 24 (0, 0))) ∧ Aside0 (Below w.heap.size w wc))
              case first =>
                have H := HC81.out
                clear HC81
                by_cases c82 : a3 < (-15)
                · rw [if_pos c82] at H
                  have c82b0 : decide (a3 < (-15)) = true := decide_eq_true c82
                  clear c82
                  (first | rw [c82b0] | (simp only [i64_w, i32_w]; rw [c82b0]) | skip)
                  have H' := Aside0.mk H
                  clear H
                  go_wp2
                  go_meet
                  case rel => exact ⟨_, (true), (by first | rfl | (simp; done) | (simp [*]; done)), H', ⟨by have := HJ5.out; have := HJ53.out; first | omega | exact Nat.le_refl _⟩, ⟨by (with_reducible repeat (first | apply Kd.R_alloc | apply Kd.R_drewN | apply Kd.R_drew)); exact HO_280002.out⟩, ⟨by (with_reducible repeat (first | apply Kd.R_alloc | apply Kd.R_drewN | apply Kd.R_drew)); exact HO_280003.out⟩, ⟨by (with_reducible repeat (first | apply Kd.R_alloc | apply Kd.R_drewN | apply Kd.R_drew)); exact HO_280004.out⟩, ⟨by (with_reducible repeat (first | apply Kd.R_alloc | apply Kd.R_drewN | apply Kd.R_drew)); exact HO_293002.out⟩, ⟨by (with_reducible repeat (first | apply Kd.R_alloc | apply Kd.R_drewN | apply Kd.R_drew)); exact HO_293003.out⟩, ⟨by (with_reducible repeat (first | apply Kd.R_alloc | apply Kd.R_drewN | apply Kd.R_drew)); exact HO_293004.out⟩, ⟨by (with_reducible repeat (first | refine blk_drewN ?_ _ | refine blk_drew ?_ | refine blk_alloc ?_ _)); exact BK263.out⟩, ⟨by (with_reducible repeat (first | refine blk_drewN ?_ _ | refine blk_drew ?_ | refine blk_alloc ?_ _)); exact BK279.out⟩, ⟨by (with_reducible repeat (first | refine blk_drewN ?_ _ | refine blk_drew ?_ | refine blk_alloc ?_ _)); exact BK292.out⟩, ⟨by repeat (first | (with_reducible first | exact HB.out | apply below_alloc | apply pw_below_drewN | apply below_drew1 | refine below_set ?_ GE263.out | refine below_set ?_ GE279.out | refine below_set ?_ GE292.out) | exact HB.out)⟩⟩
                · rw [if_neg c82] at H
                  have c82b0 : decide (a3 < (-15)) = false := decide_eq_false c82
                  clear c82
                  (first | rw [c82b0] | (simp only [i64_w, i32_w]; rw [c82b0]) | skip)
                  by_cases c83 : a3 > 15
                  · rw [if_pos c83] at H
                    have c83b0 : decide (15 < a3) = true := decide_eq_true c83
                    clear c83
                    have H' := Aside0.mk H
                    clear H
                    go_wp2
                    go_meet
                    case rel => exact ⟨_, (true), (by first | rfl | (simp; done) | (simp [*]; done)), H', ⟨by have := HJ5.out; have := HJ53.out; first | omega | exact Nat.le_refl _⟩, ⟨by (with_reducible repeat (first | apply Kd.R_alloc | apply Kd.R_drewN | apply Kd.R_drew)); exact HO_280002.out⟩, ⟨by (with_reducible repeat (first | apply Kd.R_alloc | apply Kd.R_drewN | apply Kd.R_drew)); exact HO_280003.out⟩, ⟨by (with_reducible repeat (first | apply Kd.R_alloc | apply Kd.R_drewN | apply Kd.R_drew)); exact HO_280004.out⟩, ⟨by (with_reducible repeat (first | apply Kd.R_alloc | apply Kd.R_drewN | apply Kd.R_drew)); exact HO_293002.out⟩, ⟨by (with_reducible repeat (first | apply Kd.R_alloc | apply Kd.R_drewN | apply Kd.R_drew)); exact HO_293003.out⟩, ⟨by (with_reducible repeat (first | apply Kd.R_alloc | apply Kd.R_drewN | apply Kd.R_drew)); exact HO_293004.out⟩, ⟨by (with_reducible repeat (first | refine blk_drewN ?_ _ | refine blk_drew ?_ | refine blk_alloc ?_ _)); exact BK263.out⟩, ⟨by (with_reducible repeat (first | refine blk_drewN ?_ _ | refine blk_drew ?_ | refine blk_alloc ?_ _)); exact BK279.out⟩, ⟨by (with_reducible repeat (first | refine blk_drewN ?_ _ | refine blk_drew ?_ | refine blk_alloc ?_ _)); exact BK292.out⟩, ⟨by repeat (first | (with_reducible first | exact HB.out | apply below_alloc | apply pw_below_drewN | apply below_drew1 | refine below_set ?_ GE263.out | refine below_set ?_ GE279.out | refine below_set ?_ GE292.out) | exact HB.out)⟩⟩
                  · rw [if_neg c83] at H
                    have c83b0 : decide (15 < a3) = false := decide_eq_false c83
                    clear c83
                    by_cases c84 : a4 < (-15)
                    · rw [if_pos c84] at H
                      have c84b0 : decide (a4 < (-15)) = true := decide_eq_true c84
                      clear c84
                      have H' := Aside0.mk H
                      clear H
                      go_wp2
                      go_meet
                      case rel => exact ⟨_, (true), (by first | rfl | (simp; done) | (simp [*]; done)), H', ⟨by have := HJ5.out; have := HJ53.out; first | omega | exact Nat.le_refl _⟩, ⟨by (with_reducible repeat (first | apply Kd.R_alloc | apply Kd.R_drewN | apply Kd.R_drew)); exact HO_280002.out⟩, ⟨by (with_reducible repeat (first | apply Kd.R_alloc | apply Kd.R_drewN | apply Kd.R_drew)); exact HO_280003.out⟩, ⟨by (with_reducible repeat (first | apply Kd.R_alloc | apply Kd.R_drewN | apply Kd.R_drew)); exact HO_280004.out⟩, ⟨by (with_reducible repeat (first | apply Kd.R_alloc | apply Kd.R_drewN | apply Kd.R_drew)); exact HO_293002.out⟩, ⟨by (with_reducible repeat (first | apply Kd.R_alloc | apply Kd.R_drewN | apply Kd.R_drew)); exact HO_293003.out⟩, ⟨by (with_reducible repeat (first | apply Kd.R_alloc | apply Kd.R_drewN | apply Kd.R_drew)); exact HO_293004.out⟩, ⟨by (with_reducible repeat (first | refine blk_drewN ?_ _ | refine blk_drew ?_ | refine blk_alloc ?_ _)); exact BK263.out⟩, ⟨by (with_reducible repeat (first | refine blk_drewN ?_ _ | refine blk_drew ?_ | refine blk_alloc ?_ _)); exact BK279.out⟩, ⟨by (with_reducible repeat (first | refine blk_drewN ?_ _ | refine blk_drew ?_ | refine blk_alloc ?_ _)); exact BK292.out⟩, ⟨by repeat (first | (with_reducible first | exact HB.out | apply below_alloc | apply pw_below_drewN | apply below_drew1 | refine below_set ?_ GE263.out | refine below_set ?_ GE279.out | refine below_set ?_ GE292.out) | exact HB.out)⟩⟩
                    · rw [if_neg c84] at H
                      have c84b0 : decide (a4 < (-15)) = false := decide_eq_false c84
                      clear c84
                      by_cases c85 : a4 > 15
                      · rw [if_pos c85] at H
                        have c85b0 : decide (15 < a4) = true := decide_eq_true c85
                        clear c85
                        have H' := Aside0.mk H
                        clear H
                        go_wp2
                        go_meet
                        case rel => exact ⟨_, (true), (by first | rfl | (simp; done) | (simp [*]; done)), H', ⟨by have := HJ5.out; have := HJ53.out; first | omega | exact Nat.le_refl _⟩, ⟨by (with_reducible repeat (first | apply Kd.R_alloc | apply Kd.R_drewN | apply Kd.R_drew)); exact HO_280002.out⟩, ⟨by (with_reducible repeat (first | apply Kd.R_alloc | apply Kd.R_drewN | apply Kd.R_drew)); exact HO_280003.out⟩, ⟨by (with_reducible repeat (first | apply Kd.R_alloc | apply Kd.R_drewN | apply Kd.R_drew)); exact HO_280004.out⟩, ⟨by (with_reducible repeat (first | apply Kd.R_alloc | apply Kd.R_drewN | apply Kd.R_drew)); exact HO_293002.out⟩, ⟨by (with_reducible repeat (first | apply Kd.R_alloc | apply Kd.R_drewN | apply Kd.R_drew)); exact HO_293003.out⟩, ⟨by (with_reducible repeat (first | apply Kd.R_alloc | apply Kd.R_drewN | apply Kd.R_drew)); exact HO_293004.out⟩, ⟨by (with_reducible repeat (first | refine blk_drewN ?_ _ | refine blk_drew ?_ | refine blk_alloc ?_ _)); exact BK263.out⟩, ⟨by (with_reducible repeat (first | refine blk_drewN ?_ _ | refine blk_drew ?_ | refine blk_alloc ?_ _)); exact BK279.out⟩, ⟨by (with_reducible repeat (first | refine blk_drewN ?_ _ | refine blk_drew ?_ | refine blk_alloc ?_ _)); exact BK292.out⟩, ⟨by repeat (first | (with_reducible first | exact HB.out | apply below_alloc | apply pw_below_drewN | apply below_drew1 | refine below_set ?_ GE263.out | refine below_set ?_ GE279.out | refine below_set ?_ GE292.out) | exact HB.out)⟩⟩
                      · rw [if_neg c85] at H
                        have c85b0 : decide (15 < a4) = false := decide_eq_false c85
                        clear c85
                        by_cases c86 : (wrap64 ((wrap64 (16 * a1)) + (wrap64 (2 * a3)))) < 0
                        · rw [if_pos c86] at H
                          have c86b0 : decide ((wrap64 ((wrap64 (16 * a1)) + (wrap64 (2 * a3)))) < 0) = true := decide_eq_true c86
                          clear c86
                          have H' := Aside0.mk H
                          clear H
                          go_wp2
                          go_meet
                          case rel => exact ⟨_, (true), (by first | rfl | (simp; done) | (simp [*]; done)), H', ⟨by have := HJ5.out; have := HJ53.out; first | omega | exact Nat.le_refl _⟩, ⟨by (with_reducible repeat (first | apply Kd.R_alloc | apply Kd.R_drewN | apply Kd.R_drew)); exact HO_280002.out⟩, ⟨by (with_reducible repeat (first | apply Kd.R_alloc | apply Kd.R_drewN | apply Kd.R_drew)); exact HO_280003.out⟩, ⟨by (with_reducible repeat (first | apply Kd.R_alloc | apply Kd.R_drewN | apply Kd.R_drew)); exact HO_280004.out⟩, ⟨by (with_reducible repeat (first | apply Kd.R_alloc | apply Kd.R_drewN | apply Kd.R_drew)); exact HO_293002.out⟩, ⟨by (with_reducible repeat (first | apply Kd.R_alloc | apply Kd.R_drewN | apply Kd.R_drew)); exact HO_293003.out⟩, ⟨by (with_reducible repeat (first | apply Kd.R_alloc | apply Kd.R_drewN | apply Kd.R_drew)); exact HO_293004.out⟩, ⟨by (with_reducible repeat (first | refine blk_drewN ?_ _ | refine blk_drew ?_ | refine blk_alloc ?_ _)); exact BK263.out⟩, ⟨by (with_reducible repeat (first | refine blk_drewN ?_ _ | refine blk_drew ?_ | refine blk_alloc ?_ _)); exact BK279.out⟩, ⟨by (with_reducible repeat (first | refine blk_drewN ?_ _ | refine blk_drew ?_ | refine blk_alloc ?_ _)); exact BK292.out⟩, ⟨by repeat (first | (with_reducible first | exact HB.out | apply below_alloc | apply pw_below_drewN | apply below_drew1 | refine below_set ?_ GE263.out | refine below_set ?_ GE279.out | refine below_set ?_ GE292.out) | exact HB.out)⟩⟩
                        · rw [if_neg c86] at H
                          have c86b0 : decide ((wrap64 ((wrap64 (16 * a1)) + (wrap64 (2 * a3)))) < 0) = false := decide_eq_false c86
                          clear c86
                          by_cases c87 : (wrap64 ((wrap64 (16 * a2)) + (wrap64 (2 * a4)))) < 0
                          · rw [if_pos c87] at H
                            have c87b0 : decide ((wrap64 ((wrap64 (16 * a2)) + (wrap64 (2 * a4)))) < 0) = true := decide_eq_true c87
                            clear c87
                            have H' := Aside0.mk H
                            clear H
                            go_wp2
                            go_meet
                            case rel => exact ⟨_, (true), (by first | rfl | (simp; done) | (simp [*]; done)), H', ⟨by have := HJ5.out; have := HJ53.out; first | omega | exact Nat.le_refl _⟩, ⟨by (with_reducible repeat (first | apply Kd.R_alloc | apply Kd.R_drewN | apply Kd.R_drew)); exact HO_280002.out⟩, ⟨by (with_reducible repeat (first | apply Kd.R_alloc | apply Kd.R_drewN | apply Kd.R_drew)); exact HO_280003.out⟩, ⟨by (with_reducible repeat (first | apply Kd.R_alloc | apply Kd.R_drewN | apply Kd.R_drew)); exact HO_280004.out⟩, ⟨by (with_reducible repeat (first | apply Kd.R_alloc | apply Kd.R_drewN | apply Kd.R_drew)); exact HO_293002.out⟩, ⟨by (with_reducible repeat (first | apply Kd.R_alloc | apply Kd.R_drewN | apply Kd.R_drew)); exact HO_293003.out⟩, ⟨by (with_reducible repeat (first | apply Kd.R_alloc | apply Kd.R_drewN | apply Kd.R_drew)); exact HO_293004.out⟩, ⟨by (with_reducible repeat (first | refine blk_drewN ?_ _ | refine blk_drew ?_ | refine blk_alloc ?_ _)); exact BK263.out⟩, ⟨by (with_reducible repeat (first | refine blk_drewN ?_ _ | refine blk_drew ?_ | refine blk_alloc ?_ _)); exact BK279.out⟩, ⟨by (with_reducible repeat (first | refine blk_drewN ?_ _ | refine blk_drew ?_ | refine blk_alloc ?_ _)); exact BK292.out⟩, ⟨by repeat (first | (with_reducible first | exact HB.out | apply below_alloc | apply pw_below_drewN | apply below_drew1 | refine below_set ?_ GE263.out | refine below_set ?_ GE279.out | refine below_set ?_ GE292.out) | exact HB.out)⟩⟩
                          · rw [if_neg c87] at H
                            have c87b0 : decide ((wrap64 ((wrap64 (16 * a2)) + (wrap64 (2 * a4)))) < 0) = false := decide_eq_false c87
                            clear c87
                            by_cases c88 : (wrap64 ((wrap64 ((wrap64 (16 * a1)) + (wrap64 (2 * a3)))) + 16)) > a0_0
                            · rw [if_pos c88] at H
                              have c88b0 : decide (a0_0 < (wrap64 ((wrap64 ((wrap64 (16 * a1)) + (wrap64 (2 * a3)))) + 16))) = true := decide_eq_true c88
                              clear c88
                              have H' := Aside0.mk H
                              clear H
                              have hnb89 := NB263_279.out
                              have hnc89 := NB279_263.out
                              have hnb90 := NB263_292.out
                              have hnc90 := NB292_263.out
                              have hcz91_0 : wc.cell? ⟨gb263, 0, none⟩ = some (.int .i64 a0_0) := (blk_cell BK263.out 0).trans rfl
                              have hcz91_1 : wc.cell? ⟨gb263, 1, none⟩ = some (.int .i64 a0_1) := (blk_cell BK263.out 1).trans rfl
                              have hcz91_2 : wc.cell? ⟨gb263, 2, none⟩ = some (.slice A0_2 l0_2.length c0_2) := (blk_cell BK263.out 2).trans rfl
                              have hcz91_3 : wc.cell? ⟨gb263, 3, none⟩ = some (.slice A0_3 l0_3.length c0_3) := (blk_cell BK263.out 3).trans rfl
                              have hcz91_4 : wc.cell? ⟨gb263, 4, none⟩ = some (.slice A0_4 l0_4.length c0_4) := (blk_cell BK263.out 4).trans rfl
                              have hfz91_0 := blk_frozen BK263.out 0
                              have hfz91_1 := blk_frozen BK263.out 1
                              have hfz91_2 := blk_frozen BK263.out 2
                              have hfz91_3 := blk_frozen BK263.out 3
                              have hfz91_4 := blk_frozen BK263.out 4
                              go_wp2
                              go_meet
                              case rel => exact ⟨_, (true), (by first | rfl | (simp; done) | (simp [*]; done)), H', ⟨by have := HJ5.out; have := HJ53.out; first | omega | exact Nat.le_refl _⟩, ⟨by (with_reducible repeat (first | apply Kd.R_alloc | apply Kd.R_drewN | apply Kd.R_drew)); exact HO_280002.out⟩, ⟨by (with_reducible repeat (first | apply Kd.R_alloc | apply Kd.R_drewN | apply Kd.R_drew)); exact HO_280003.out⟩, ⟨by (with_reducible repeat (first | apply Kd.R_alloc | apply Kd.R_drewN | apply Kd.R_drew)); exact HO_280004.out⟩, ⟨by (with_reducible repeat (first | apply Kd.R_alloc | apply Kd.R_drewN | apply Kd.R_drew)); exact HO_293002.out⟩, ⟨by (with_reducible repeat (first | apply Kd.R_alloc | apply Kd.R_drewN | apply Kd.R_drew)); exact HO_293003.out⟩, ⟨by (with_reducible repeat (first | apply Kd.R_alloc | apply Kd.R_drewN | apply Kd.R_drew)); exact HO_293004.out⟩, ⟨by (with_reducible repeat (first | refine blk_drewN ?_ _ | refine blk_drew ?_ | refine blk_alloc ?_ _)); exact BK263.out⟩, ⟨by (with_reducible repeat (first | refine blk_drewN ?_ _ | refine blk_drew ?_ | refine blk_alloc ?_ _)); exact BK279.out⟩, ⟨by (with_reducible repeat (first | refine blk_drewN ?_ _ | refine blk_drew ?_ | refine blk_alloc ?_ _)); exact BK292.out⟩, ⟨by repeat (first | (with_reducible first | exact HB.out | apply below_alloc | apply pw_below_drewN | apply below_drew1 | refine below_set ?_ GE263.out | refine below_set ?_ GE279.out | refine below_set ?_ GE292.out) | exact HB.out)⟩⟩
                            · rw [if_neg c88] at H
                              have c88b0 : decide (a0_0 < (wrap64 ((wrap64 ((wrap64 (16 * a1)) + (wrap64 (2 * a3)))) + 16))) = false := decide_eq_false c88
                              clear c88
                              have H' := Aside0.mk H
                              clear H
                              have hnb92 := NB263_279.out
                              have hnc92 := NB279_263.out
                              have hnb93 := NB263_292.out
                              have hnc93 := NB292_263.out
                              have hcz94_0 : wc.cell? ⟨gb263, 0, none⟩ = some (.int .i64 a0_0) := (blk_cell BK263.out 0).trans rfl
                              have hcz94_1 : wc.cell? ⟨gb263, 1, none⟩ = some (.int .i64 a0_1) := (blk_cell BK263.out 1).trans rfl
                              have hcz94_2 : wc.cell? ⟨gb263, 2, none⟩ = some (.slice A0_2 l0_2.length c0_2) := (blk_cell BK263.out 2).trans rfl
                              have hcz94_3 : wc.cell? ⟨gb263, 3, none⟩ = some (.slice A0_3 l0_3.length c0_3) := (blk_cell BK263.out 3).trans rfl
                              have hcz94_4 : wc.cell? ⟨gb263, 4, none⟩ = some (.slice A0_4 l0_4.length c0_4) := (blk_cell BK263.out 4).trans rfl
                              have hfz94_0 := blk_frozen BK263.out 0
                              have hfz94_1 := blk_frozen BK263.out 1
                              have hfz94_2 := blk_frozen BK263.out 2
                              have hfz94_3 := blk_frozen BK263.out 3
                              have hfz94_4 := blk_frozen BK263.out 4
                              go_wp2
                              go_meet
                              case rel => exact ⟨_, (decide ((wrap64 ((wrap64 ((wrap64 (16 * a2)) + (wrap64 (2 * a4)))) + 16)) > a0_1)), (by first | rfl | (simp; done) | (simp [*]; done)), H', ⟨by have := HJ5.out; have := HJ53.out; first | omega | exact Nat.le_refl _⟩, ⟨by (with_reducible repeat (first | apply Kd.R_alloc | apply Kd.R_drewN | apply Kd.R_drew)); exact HO_280002.out⟩, ⟨by (with_reducible repeat (first | apply Kd.R_alloc | apply Kd.R_drewN | apply Kd.R_drew)); exact HO_280003.out⟩, ⟨by (with_reducible repeat (first | apply Kd.R_alloc | apply Kd.R_drewN | apply Kd.R_drew)); exact HO_280004.out⟩, ⟨by (with_reducible repeat (first | apply Kd.R_alloc | apply Kd.R_drewN | apply Kd.R_drew)); exact HO_293002.out⟩, ⟨by (with_reducible repeat (first | apply Kd.R_alloc | apply Kd.R_drewN | apply Kd.R_drew)); exact HO_293003.out⟩, ⟨by (with_reducible repeat (first | apply Kd.R_alloc | apply Kd.R_drewN | apply Kd.R_drew)); exact HO_293004.out⟩, ⟨by (with_reducible repeat (first | refine blk_drewN ?_ _ | refine blk_drew ?_ | refine blk_alloc ?_ _)); exact BK263.out⟩, ⟨by (with_reducible repeat (first | refine blk_drewN ?_ _ | refine blk_drew ?_ | refine blk_alloc ?_ _)); exact BK279.out⟩, ⟨by (with_reducible repeat (first | refine blk_drewN ?_ _ | refine blk_drew ?_ | refine blk_alloc ?_ _)); exact BK292.out⟩, ⟨by repeat (first | (with_reducible first | exact HB.out | apply below_alloc | apply pw_below_drewN | apply below_drew1 | refine below_set ?_ GE263.out | refine below_set ?_ GE279.out | refine below_set ?_ GE292.out) | exact HB.out)⟩⟩
              case rest =>
                clear HC81
                try clear c1
                try clear c2
                try clear p2
                try clear c3
                try clear c4
                try clear c5
                try clear c6
                try clear p6
                try clear c7
                try clear c8
                try clear c9
                try clear c10
                try clear c11
                try clear c12
                try clear c12b0
                try clear c13
                try clear c15
                try clear c17
                try clear c17b0
                try clear c18
                try clear c22
                try clear c22b0
                try clear c27
                try clear c27b0
                try clear c32
                try clear c32b0
                try clear c49
                try clear c58
                try clear p64
                try clear c66
                try clear c67
                try clear c72
                try clear c72b0
                try clear c72b1
                try clear c74
                try clear c75
                try clear c77
                try clear c80
                try clear c82
                try clear c82b0
                try clear c83
                try clear c83b0
                try clear c84
                try clear c84b0
                try clear c85
                try clear c85b0
                try clear c86
                try clear c86b0
                try clear c87
                try clear c87b0
                try clear c88
                try clear c88b0
                try clear c89
                try clear c90
                try clear c92
                try clear c93
                try clear hcz13_0
                try clear hcz13_1
                try clear hcz13_2
                try clear hcz13_3
                try clear hcz13_4
                try clear hcz15_0
                try clear hcz15_1
                try clear hcz15_2
                try clear hcz15_3
                try clear hcz15_4
                try clear hcz18_0
                try clear hcz18_1
                try clear hcz18_2
                try clear hcz18_3
                try clear hcz18_4
                try clear hcz20_0
                try clear hcz20_1
                try clear hcz20_2
                try clear hcz20_3
                try clear hcz20_4
                try clear hcz23_0
                try clear hcz23_1
                try clear hcz23_2
                try clear hcz23_3
                try clear hcz23_4
                try clear hcz25_0
                try clear hcz25_1
                try clear hcz25_2
                try clear hcz25_3
                try clear hcz25_4
                try clear hcz28_0
                try clear hcz28_1
                try clear hcz28_2
                try clear hcz28_3
                try clear hcz28_4
                try clear hcz30_0
                try clear hcz30_1
                try clear hcz30_2
                try clear hcz30_3
                try clear hcz30_4
                try clear hcz33_0
                try clear hcz33_1
                try clear hcz33_2
                try clear hcz33_3
                try clear hcz33_4
                try clear hcz35_0
                try clear hcz35_1
                try clear hcz35_2
                try clear hcz35_3
                try clear hcz35_4
                try clear hcz37_0
                try clear hcz37_1
                try clear hcz37_2
                try clear hcz37_3
                try clear hcz37_4
                try clear hcz38_0
                try clear hcz38_1
                try clear hcz38_2
                try clear hcz38_3
                try clear hcz38_4
                try clear hcz40_0
                try clear hcz40_1
                try clear hcz40_2
                try clear hcz40_3
                try clear hcz40_4
                try clear hcz42_0
                try clear hcz42_1
                try clear hcz42_2
                try clear hcz42_3
                try clear hcz42_4
                try clear hcz43_0
                try clear hcz43_1
                try clear hcz43_2
                try clear hcz43_3
                try clear hcz43_4
                try clear hcz45_0
                try clear hcz45_1
                try clear hcz45_2
                try clear hcz45_3
                try clear hcz45_4
                try clear hcz47_0
                try clear hcz47_1
                try clear hcz47_2
                try clear hcz47_3
                try clear hcz47_4
                try clear hcz55_0
                try clear hcz55_1
                try clear hcz55_2
                try clear hcz55_3
                try clear hcz55_4
                try clear hcz59_0
                try clear hcz59_1
                try clear hcz59_2
                try clear hcz59_3
                try clear hcz59_4
                try clear hcz63_0
                try clear hcz63_1
                try clear hcz63_2
                try clear hcz63_3
                try clear hcz63_4
                try clear hcz68_0
                try clear hcz68_1
                try clear hcz68_2
                try clear hcz68_3
                try clear hcz68_4
                try clear hcz76_0
                try clear hcz76_1
                try clear hcz76_2
                try clear hcz76_3
                try clear hcz76_4
                try clear hcz78_0
                try clear hcz78_1
                try clear hcz78_2
                try clear hcz78_3
                try clear hcz78_4
                try clear hcz91_0
                try clear hcz91_1
                try clear hcz91_2
                try clear hcz91_3
                try clear hcz91_4
                try clear hcz94_0
                try clear hcz94_1
                try clear hcz94_2
                try clear hcz94_3
                try clear hcz94_4
                try clear hfz13_0
                try clear hfz13_1
                try clear hfz13_2
                try clear hfz13_3
                try clear hfz13_4
                try clear hfz15_0
                try clear hfz15_1
                try clear hfz15_2
                try clear hfz15_3
                try clear hfz15_4
                try clear hfz18_0
                try clear hfz18_1
                try clear hfz18_2
                try clear hfz18_3
                try clear hfz18_4
                try clear hfz20_0
                try clear hfz20_1
                try clear hfz20_2
                try clear hfz20_3
                try clear hfz20_4
                try clear hfz23_0
                try clear hfz23_1
                try clear hfz23_2
                try clear hfz23_3
                try clear hfz23_4
                try clear hfz25_0
                try clear hfz25_1
                try clear hfz25_2
                try clear hfz25_3
                try clear hfz25_4
                try clear hfz28_0
                try clear hfz28_1
                try clear hfz28_2
                try clear hfz28_3
                try clear hfz28_4
                try clear hfz30_0
                try clear hfz30_1
                try clear hfz30_2
                try clear hfz30_3
                try clear hfz30_4
                try clear hfz33_0
                try clear hfz33_1
                try clear hfz33_2
                try clear hfz33_3
                try clear hfz33_4
                try clear hfz35_0
                try clear hfz35_1
                try clear hfz35_2
                try clear hfz35_3
                try clear hfz35_4
                try clear hfz37_0
                try clear hfz37_1
                try clear hfz37_2
                try clear hfz37_3
                try clear hfz37_4
                try clear hfz38_0
                try clear hfz38_1
                try clear hfz38_2
                try clear hfz38_3
                try clear hfz38_4
                try clear hfz40_0
                try clear hfz40_1
                try clear hfz40_2
                try clear hfz40_3
                try clear hfz40_4
                try clear hfz42_0
                try clear hfz42_1
                try clear hfz42_2
                try clear hfz42_3
                try clear hfz42_4
                try clear hfz43_0
                try clear hfz43_1
                try clear hfz43_2
                try clear hfz43_3
                try clear hfz43_4
                try clear hfz45_0
                try clear hfz45_1
                try clear hfz45_2
                try clear hfz45_3
                try clear hfz45_4
                try clear hfz47_0
                try clear hfz47_1
                try clear hfz47_2
                try clear hfz47_3
                try clear hfz47_4
                try clear hfz55_0
                try clear hfz55_1
                try clear hfz55_2
                try clear hfz55_3
                try clear hfz55_4
                try clear hfz59_0
                try clear hfz59_1
                try clear hfz59_2
                try clear hfz59_3
                try clear hfz59_4
                try clear hfz63_0
                try clear hfz63_1
                try clear hfz63_2
                try clear hfz63_3
                try clear hfz63_4
                try clear hfz68_0
                try clear hfz68_1
                try clear hfz68_2
                try clear hfz68_3
                try clear hfz68_4
                try clear hfz76_0
                try clear hfz76_1
                try clear hfz76_2
                try clear hfz76_3
                try clear hfz76_4
                try clear hfz78_0
                try clear hfz78_1
                try clear hfz78_2
                try clear hfz78_3
                try clear hfz78_4
                try clear hfz91_0
                try clear hfz91_1
                try clear hfz91_2
                try clear hfz91_3
                try clear hfz91_4
                try clear hfz94_0
                try clear hfz94_1
                try clear hfz94_2
                try clear hfz94_3
                try clear hfz94_4
                try clear p2
                try clear p6
                try clear p64
                obtain ⟨kq, x133_80, rfl, HA, HJ80, HO_280002, HO_280003, HO_280004, HO_293002, HO_293003, HO_293004, BK263, BK279, BK292, HB⟩ := hcut
                cases kq with
                | zero => exact absurd HA.out (by simp [cutroomlaw08_MotionStill.j2])
                | succ kj80 =>
                  have H := HA.out
                  clear HA
                  simp only [cutroomlaw08_MotionStill.j2] at H
                  by_cases c95 : x133_80 = true
                  · subst c95
                    have H1 : ((cutroomlaw08_awake.f kj80).bind fun t294 => (some t294)) = some r := by rw [if_pos rfl] at H; exact H
                    clear H
                    have H := H1
                    clear H1
                    replace H := Option.bind_eq_some_iff.mp H
                    obtain ⟨t294, A960, H⟩ := H
                    replace H : (some t294) = some r := H
                    have A96 := Aside0.mk A960
                    clear A960
                    obtain rfl := Option.some.inj H
                    go_wp2_with (first | ((with_reducible refine gate_callee (f := 13) rfl ?_); refine goesL_ (some 134) rfl rfl Try.func13 (by kernel_rfl) rfl #[] rfl (by (try simp only [List.map_toArray, List.map_cons, List.map_nil]); first | done | rfl | (simp only [List.length_drop, List.length_take]; rfl)) ?_; (with_reducible refine (cutroomlaw08_awake.calls kj80  t294 _ A96.out).mono ?_); rintro e w97 ⟨rfl, hb⟩; refine ⟨_, rfl, ?_⟩; have n0_ := Aside0.mk (Kd.R_below (by (with_reducible repeat (first | apply Kd.R_alloc | apply Kd.R_drewN | apply Kd.R_drew)); exact HO_280002.out) hb); have n1_ := Aside0.mk (Kd.R_below (by (with_reducible repeat (first | apply Kd.R_alloc | apply Kd.R_drewN | apply Kd.R_drew)); exact HO_280003.out) hb); have n2_ := Aside0.mk (Kd.R_below (by (with_reducible repeat (first | apply Kd.R_alloc | apply Kd.R_drewN | apply Kd.R_drew)); exact HO_280004.out) hb); have n3_ := Aside0.mk (Kd.R_below (by (with_reducible repeat (first | apply Kd.R_alloc | apply Kd.R_drewN | apply Kd.R_drew)); exact HO_293002.out) hb); have n4_ := Aside0.mk (Kd.R_below (by (with_reducible repeat (first | apply Kd.R_alloc | apply Kd.R_drewN | apply Kd.R_drew)); exact HO_293003.out) hb); have n5_ := Aside0.mk (Kd.R_below (by (with_reducible repeat (first | apply Kd.R_alloc | apply Kd.R_drewN | apply Kd.R_drew)); exact HO_293004.out) hb); have n6_ := Aside0.mk (blk_below (g := gb263) (o := .cells #[.int .i64 a0_0, .int .i64 a0_1, .slice A0_2 l0_2.length c0_2, .slice A0_3 l0_3.length c0_3, .slice A0_4 l0_4.length c0_4] 24 (0, 0)) (by (with_reducible repeat (first | refine blk_drewN ?_ _ | refine blk_drew ?_ | refine blk_alloc ?_ _)); exact BK263.out) hb); have n7_ := Aside0.mk (blk_below (g := gb279) (o := .cells #[.int .i64 t267, .int .i64 t268, .slice Ao60 t269.length co60, .slice Ao61 t272.length co61, .slice Ao62 t275.length co62] 24 (0, 0)) (by (with_reducible repeat (first | refine blk_drewN ?_ _ | refine blk_drew ?_ | refine blk_alloc ?_ _)); exact BK279.out) hb); have n8_ := Aside0.mk (blk_below (g := gb292) (o := .cells #[.int .i64 t280, .int .i64 t281, .slice Ao69 t282.length co69, .slice Ao70 t285.length co70, .slice Ao71 t288.length co71] 24 (0, 0)) (by (with_reducible repeat (first | refine blk_drewN ?_ _ | refine blk_drew ?_ | refine blk_alloc ?_ _)); exact BK292.out) hb); have n9_ := Aside0.mk (below_step (by repeat (first | (with_reducible first | exact HB.out | apply below_alloc | apply pw_below_drewN | apply below_drew1 | refine below_set ?_ GE263.out | refine below_set ?_ GE279.out | refine below_set ?_ GE292.out) | exact HB.out)) hb); clear HO_280002; clear HO_280003; clear HO_280004; clear HO_293002; clear HO_293003; clear HO_293004; clear BK263; clear BK279; clear BK292; clear HB; have HO_280002 := n0_; have HO_280003 := n1_; have HO_280004 := n2_; have HO_293002 := n3_; have HO_293003 := n4_; have HO_293004 := n5_; have BK263 := n6_; have BK279 := n7_; have BK292 := n8_; have HB := n9_; clear n0_ n1_ n2_ n3_ n4_ n5_ n6_ n7_ n8_ n9_; (try clear hb); (try clear hb2); (try clear hk); (try clear hi)))
                    go_ret
                    exact ⟨by first | rfl | (simp [errW_none, errW_some] <;> rfl) | (simp [*, errW_none, errW_some] <;> rfl), by repeat (first | (with_reducible first | exact HB.out | apply below_alloc | apply pw_below_drewN | apply below_drew1 | refine below_set ?_ GE263.out | refine below_set ?_ GE279.out | refine below_set ?_ GE292.out) | exact HB.out)⟩
                  replace c95 := Bool.eq_false_iff.mpr c95
                  subst c95
                  have H1 : ((motion_Predict.f kj80 a0_0 a0_1 l0_2 l0_3 l0_4 (wrap64 (16 * a1)) (wrap64 (16 * a2)) 16 16 (wrap64 (4 * a3)) (wrap64 (4 * a4))).bind fun bt295 => ((cutroomref07_Blank.f 16 16).bind fun bt307 => ((cutroomref07_Paste.f kj80 bt307.1 bt307.2.1 bt307.2.2.1 bt307.2.2.2.1 bt307.2.2.2.2 0 0 a0_0 a0_1 l0_2 l0_3 l0_4 (wrap64 ((wrap64 (16 * a1)) + (wrap64 (2 * a3)))) (wrap64 ((wrap64 (16 * a2)) + (wrap64 (2 * a4)))) 16 16).bind fun bt319 => ((cutroomlaw08_awake.f kj80).bind fun t322 => (if t322 = true then (if bt295.2.2.2.2.2 = 0 then ((cutroomref07_Equal.f bt295.1 bt295.2.1 bt295.2.2.1 bt295.2.2.2.1 bt295.2.2.2.2.1 bt307.1 bt307.2.1 bt319.1 bt319.2.1 bt319.2.2).bind fun t323 => (some t323)) else (some false)) else (some false)))))) = some r := by rw [if_neg (show ¬ (false = true) by decide)] at H; exact H
                  clear H
                  have H := H1
                  clear H1
                  replace H := Option.bind_eq_some_iff.mp H
                  obtain ⟨⟨t295, t296, t297, t300, t303, t306⟩, A980, H⟩ := H
                  replace H : ((cutroomref07_Blank.f 16 16).bind fun bt307 => ((cutroomref07_Paste.f kj80 bt307.1 bt307.2.1 bt307.2.2.1 bt307.2.2.2.1 bt307.2.2.2.2 0 0 a0_0 a0_1 l0_2 l0_3 l0_4 (wrap64 ((wrap64 (16 * a1)) + (wrap64 (2 * a3)))) (wrap64 ((wrap64 (16 * a2)) + (wrap64 (2 * a4)))) 16 16).bind fun bt319 => ((cutroomlaw08_awake.f kj80).bind fun t322 => (if t322 = true then (if t306 = 0 then ((cutroomref07_Equal.f t295 t296 t297 t300 t303 bt307.1 bt307.2.1 bt319.1 bt319.2.1 bt319.2.2).bind fun t323 => (some t323)) else (some false)) else (some false))))) = some r := H
                  have A98 := Aside0.mk A980
                  clear A980
                  replace H := Option.bind_eq_some_iff.mp H
                  obtain ⟨⟨t307, t308, t309, t312, t315⟩, A990, H⟩ := H
                  replace H : ((cutroomref07_Paste.f kj80 t307 t308 t309 t312 t315 0 0 a0_0 a0_1 l0_2 l0_3 l0_4 (wrap64 ((wrap64 (16 * a1)) + (wrap64 (2 * a3)))) (wrap64 ((wrap64 (16 * a2)) + (wrap64 (2 * a4)))) 16 16).bind fun bt319 => ((cutroomlaw08_awake.f kj80).bind fun t322 => (if t322 = true then (if t306 = 0 then ((cutroomref07_Equal.f t295 t296 t297 t300 t303 t307 t308 bt319.1 bt319.2.1 bt319.2.2).bind fun t323 => (some t323)) else (some false)) else (some false)))) = some r := H
                  have A99 := Aside0.mk A990
                  clear A990
                  replace H := Option.bind_eq_some_iff.mp H
                  obtain ⟨⟨t319, t320, t321⟩, A1000, H⟩ := H
                  replace H : ((cutroomlaw08_awake.f kj80).bind fun t322 => (if t322 = true then (if t306 = 0 then ((cutroomref07_Equal.f t295 t296 t297 t300 t303 t307 t308 t319 t320 t321).bind fun t323 => (some t323)) else (some false)) else (some false))) = some r := H
                  have A100 := Aside0.mk A1000
                  clear A1000
                  replace H := Option.bind_eq_some_iff.mp H
                  obtain ⟨t322, A1010, H⟩ := H
                  replace H : (if t322 = true then (if t306 = 0 then ((cutroomref07_Equal.f t295 t296 t297 t300 t303 t307 t308 t319 t320 t321).bind fun t323 => (some t323)) else (some false)) else (some false)) = some r := H
                  have A101 := Aside0.mk A1010
                  clear A1010
                  by_cases c102 : t322 = true
                  subst c102
                  have H1 : (if t306 = 0 then ((cutroomref07_Equal.f t295 t296 t297 t300 t303 t307 t308 t319 t320 t321).bind fun t323 => (some t323)) else (some false)) = some r := by rw [if_pos rfl] at H; exact H
                  clear H
                  have H := H1
                  clear H1
                  by_cases c103 : t306 = 0
                  rw [if_pos c103] at H
                  have c103b0 : (t306 == 0) = true := beq_iff_eq.mpr c103
                  have c103b1 : (t306 != 0) = false := bne_eq_false_iff_eq.mpr c103
                  clear c103
                  replace H := Option.bind_eq_some_iff.mp H
                  obtain ⟨t323, A1040, H⟩ := H
                  replace H : (some t323) = some r := H
                  have A104 := Aside0.mk A1040
                  clear A1040
                  obtain rfl := Option.some.inj H
                  rotate_left 1
                  rw [if_neg c103] at H
                  have c103b0 : (t306 == 0) = false := beq_eq_false_iff_ne.mpr c103
                  have c103b1 : (t306 != 0) = true := bne_iff_ne.mpr c103
                  obtain rfl := Option.some.inj H
                  rotate_left 1
                  replace c102 := Bool.eq_false_iff.mpr c102
                  subst c102
                  have H1 : (some false) = some r := by rw [if_neg (show ¬ (false = true) by decide)] at H; exact H
                  clear H
                  have H := H1
                  clear H1
                  obtain rfl := Option.some.inj H
                  rotate_left 1
                  all_goals
                    have hnb105 := NB263_279.out
                    have hnc105 := NB279_263.out
                    have hnb106 := NB263_292.out
                    have hnc106 := NB292_263.out
                    have hcz107_0 : wc.cell? ⟨gb263, 0, none⟩ = some (.int .i64 a0_0) := (blk_cell BK263.out 0).trans rfl
                    have hcz107_1 : wc.cell? ⟨gb263, 1, none⟩ = some (.int .i64 a0_1) := (blk_cell BK263.out 1).trans rfl
                    have hcz107_2 : wc.cell? ⟨gb263, 2, none⟩ = some (.slice A0_2 l0_2.length c0_2) := (blk_cell BK263.out 2).trans rfl
                    have hcz107_3 : wc.cell? ⟨gb263, 3, none⟩ = some (.slice A0_3 l0_3.length c0_3) := (blk_cell BK263.out 3).trans rfl
                    have hcz107_4 : wc.cell? ⟨gb263, 4, none⟩ = some (.slice A0_4 l0_4.length c0_4) := (blk_cell BK263.out 4).trans rfl
                    have hfz107_0 := blk_frozen BK263.out 0
                    have hfz107_1 := blk_frozen BK263.out 1
                    have hfz107_2 := blk_frozen BK263.out 2
                    have hfz107_3 := blk_frozen BK263.out 3
                    have hfz107_4 := blk_frozen BK263.out 4
                    go_wp2_with (first | ((with_reducible refine gate_callee (f := 15) rfl ?_); refine goesL_ (some 146) rfl rfl Try.func15 (by kernel_rfl) rfl #[.agg #[.int .i64 a0_0, .int .i64 a0_1, .slice A0_2 l0_2.length c0_2, .slice A0_3 l0_3.length c0_3, .slice A0_4 l0_4.length c0_4], .int .i64 (wrap64 (16 * a1)), .int .i64 (wrap64 (16 * a2)), .int .i64 16, .int .i64 16, .agg #[.int .i64 (wrap64 (4 * a3)), .int .i64 (wrap64 (4 * a4))]] rfl (by (try simp only [List.map_toArray, List.map_cons, List.map_nil]); first | done | rfl | (simp only [List.length_drop, List.length_take]; rfl)) ?_; (with_reducible refine (motion_Predict.calls kj80 a0_0 a0_1 _ _ l0_2 _ _ l0_3 _ _ l0_4 (wrap64 (16 * a1)) (wrap64 (16 * a2)) 16 16 (wrap64 (4 * a3)) (wrap64 (4 * a4)) t295 t296 t297 t300 t303 t306 _ ?side1 ?side2 ?side3 ?side4 ?side5 ?side6 A98.out).mono ?_); (case side1 => repeat (first | exact (Kd.C_below HR0_2.out HB.out) | (with_reducible refine Kd.C_alloc ?_ _) | (with_reducible refine Kd.C_drewN ?_ _) | (with_reducible refine Kd.C_drew ?_))); (case side2 => exact HC0_2.out); (case side3 => repeat (first | exact (Kd.C_below HR0_3.out HB.out) | (with_reducible refine Kd.C_alloc ?_ _) | (with_reducible refine Kd.C_drewN ?_ _) | (with_reducible refine Kd.C_drew ?_))); (case side4 => exact HC0_3.out); (case side5 => repeat (first | exact (Kd.C_below HR0_4.out HB.out) | (with_reducible refine Kd.C_alloc ?_ _) | (with_reducible refine Kd.C_drewN ?_ _) | (with_reducible refine Kd.C_drew ?_))); (case side6 => exact HC0_4.out); rintro e w108 ⟨v298, v301, v304, rfl, ho0, ho1, ho2, hb⟩; refine ⟨_, rfl, ?_⟩; have n0_ := Aside0.mk (Kd.R_mono (Kd.R_told (Kd.R_told (Kd.R_told (Kd.R_old (by (with_reducible repeat (first | apply Kd.R_alloc | apply Kd.R_drewN | apply Kd.R_drew)); exact HO_280002.out) hb) (Kd.R_base ho0)) (Kd.R_base ho1)) (Kd.R_base ho2)) (fun _ h_ => h_.1)); have n1_ := Aside0.mk (Kd.R_mono (Kd.R_told (Kd.R_told (Kd.R_told (Kd.R_old (by (with_reducible repeat (first | apply Kd.R_alloc | apply Kd.R_drewN | apply Kd.R_drew)); exact HO_280003.out) hb) (Kd.R_base ho0)) (Kd.R_base ho1)) (Kd.R_base ho2)) (fun _ h_ => h_.1)); have n2_ := Aside0.mk (Kd.R_mono (Kd.R_told (Kd.R_told (Kd.R_told (Kd.R_old (by (with_reducible repeat (first | apply Kd.R_alloc | apply Kd.R_drewN | apply Kd.R_drew)); exact HO_280004.out) hb) (Kd.R_base ho0)) (Kd.R_base ho1)) (Kd.R_base ho2)) (fun _ h_ => h_.1)); have n3_ := Aside0.mk (Kd.R_mono (Kd.R_told (Kd.R_told (Kd.R_told (Kd.R_old (by (with_reducible repeat (first | apply Kd.R_alloc | apply Kd.R_drewN | apply Kd.R_drew)); exact HO_293002.out) hb) (Kd.R_base ho0)) (Kd.R_base ho1)) (Kd.R_base ho2)) (fun _ h_ => h_.1)); have n4_ := Aside0.mk (Kd.R_mono (Kd.R_told (Kd.R_told (Kd.R_told (Kd.R_old (by (with_reducible repeat (first | apply Kd.R_alloc | apply Kd.R_drewN | apply Kd.R_drew)); exact HO_293003.out) hb) (Kd.R_base ho0)) (Kd.R_base ho1)) (Kd.R_base ho2)) (fun _ h_ => h_.1)); have n5_ := Aside0.mk (Kd.R_mono (Kd.R_told (Kd.R_told (Kd.R_told (Kd.R_old (by (with_reducible repeat (first | apply Kd.R_alloc | apply Kd.R_drewN | apply Kd.R_drew)); exact HO_293004.out) hb) (Kd.R_base ho0)) (Kd.R_base ho1)) (Kd.R_base ho2)) (fun _ h_ => h_.1)); have n6_ := Aside0.mk (Kd.R_lower (Kd.R_new' (Kd.R_new' (Kd.R_new' (Kd.R_new' (Kd.R_new' (Kd.R_new' ho0 (Kd.R_lt (by (with_reducible repeat (first | apply Kd.R_alloc | apply Kd.R_drewN | apply Kd.R_drew)); exact HO_280002.out))) (Kd.R_lt (by (with_reducible repeat (first | apply Kd.R_alloc | apply Kd.R_drewN | apply Kd.R_drew)); exact HO_280003.out))) (Kd.R_lt (by (with_reducible repeat (first | apply Kd.R_alloc | apply Kd.R_drewN | apply Kd.R_drew)); exact HO_280004.out))) (Kd.R_lt (by (with_reducible repeat (first | apply Kd.R_alloc | apply Kd.R_drewN | apply Kd.R_drew)); exact HO_293002.out))) (Kd.R_lt (by (with_reducible repeat (first | apply Kd.R_alloc | apply Kd.R_drewN | apply Kd.R_drew)); exact HO_293003.out))) (Kd.R_lt (by (with_reducible repeat (first | apply Kd.R_alloc | apply Kd.R_drewN | apply Kd.R_drew)); exact HO_293004.out))) (below_size (by repeat (first | (with_reducible first | exact HB.out | apply below_alloc | apply pw_below_drewN | apply below_drew1 | refine below_set ?_ GE263.out | refine below_set ?_ GE279.out | refine below_set ?_ GE292.out) | exact HB.out)))); have n7_ := Aside0.mk (Kd.R_lower (Kd.R_new' (Kd.R_new' (Kd.R_new' (Kd.R_new' (Kd.R_new' (Kd.R_new' ho1 (Kd.R_lt (by (with_reducible repeat (first | apply Kd.R_alloc | apply Kd.R_drewN | apply Kd.R_drew)); exact HO_280002.out))) (Kd.R_lt (by (with_reducible repeat (first | apply Kd.R_alloc | apply Kd.R_drewN | apply Kd.R_drew)); exact HO_280003.out))) (Kd.R_lt (by (with_reducible repeat (first | apply Kd.R_alloc | apply Kd.R_drewN | apply Kd.R_drew)); exact HO_280004.out))) (Kd.R_lt (by (with_reducible repeat (first | apply Kd.R_alloc | apply Kd.R_drewN | apply Kd.R_drew)); exact HO_293002.out))) (Kd.R_lt (by (with_reducible repeat (first | apply Kd.R_alloc | apply Kd.R_drewN | apply Kd.R_drew)); exact HO_293003.out))) (Kd.R_lt (by (with_reducible repeat (first | apply Kd.R_alloc | apply Kd.R_drewN | apply Kd.R_drew)); exact HO_293004.out))) (below_size (by repeat (first | (with_reducible first | exact HB.out | apply below_alloc | apply pw_below_drewN | apply below_drew1 | refine below_set ?_ GE263.out | refine below_set ?_ GE279.out | refine below_set ?_ GE292.out) | exact HB.out)))); have n8_ := Aside0.mk (Kd.R_lower (Kd.R_new' (Kd.R_new' (Kd.R_new' (Kd.R_new' (Kd.R_new' (Kd.R_new' ho2 (Kd.R_lt (by (with_reducible repeat (first | apply Kd.R_alloc | apply Kd.R_drewN | apply Kd.R_drew)); exact HO_280002.out))) (Kd.R_lt (by (with_reducible repeat (first | apply Kd.R_alloc | apply Kd.R_drewN | apply Kd.R_drew)); exact HO_280003.out))) (Kd.R_lt (by (with_reducible repeat (first | apply Kd.R_alloc | apply Kd.R_drewN | apply Kd.R_drew)); exact HO_280004.out))) (Kd.R_lt (by (with_reducible repeat (first | apply Kd.R_alloc | apply Kd.R_drewN | apply Kd.R_drew)); exact HO_293002.out))) (Kd.R_lt (by (with_reducible repeat (first | apply Kd.R_alloc | apply Kd.R_drewN | apply Kd.R_drew)); exact HO_293003.out))) (Kd.R_lt (by (with_reducible repeat (first | apply Kd.R_alloc | apply Kd.R_drewN | apply Kd.R_drew)); exact HO_293004.out))) (below_size (by repeat (first | (with_reducible first | exact HB.out | apply below_alloc | apply pw_below_drewN | apply below_drew1 | refine below_set ?_ GE263.out | refine below_set ?_ GE279.out | refine below_set ?_ GE292.out) | exact HB.out)))); have n9_ := Aside0.mk (blk_below (g := gb263) (o := .cells #[.int .i64 a0_0, .int .i64 a0_1, .slice A0_2 l0_2.length c0_2, .slice A0_3 l0_3.length c0_3, .slice A0_4 l0_4.length c0_4] 24 (0, 0)) (by (with_reducible repeat (first | refine blk_drewN ?_ _ | refine blk_drew ?_ | refine blk_alloc ?_ _)); exact BK263.out) hb); have n10_ := Aside0.mk (blk_below (g := gb279) (o := .cells #[.int .i64 t267, .int .i64 t268, .slice Ao60 t269.length co60, .slice Ao61 t272.length co61, .slice Ao62 t275.length co62] 24 (0, 0)) (by (with_reducible repeat (first | refine blk_drewN ?_ _ | refine blk_drew ?_ | refine blk_alloc ?_ _)); exact BK279.out) hb); have n11_ := Aside0.mk (blk_below (g := gb292) (o := .cells #[.int .i64 t280, .int .i64 t281, .slice Ao69 t282.length co69, .slice Ao70 t285.length co70, .slice Ao71 t288.length co71] 24 (0, 0)) (by (with_reducible repeat (first | refine blk_drewN ?_ _ | refine blk_drew ?_ | refine blk_alloc ?_ _)); exact BK292.out) hb); have n12_ := Aside0.mk (below_step (by repeat (first | (with_reducible first | exact HB.out | apply below_alloc | apply pw_below_drewN | apply below_drew1 | refine below_set ?_ GE263.out | refine below_set ?_ GE279.out | refine below_set ?_ GE292.out) | exact HB.out)) hb); clear HO_280002; clear HO_280003; clear HO_280004; clear HO_293002; clear HO_293003; clear HO_293004; clear BK263; clear BK279; clear BK292; clear HB; have HO_280002 := n0_; have HO_280003 := n1_; have HO_280004 := n2_; have HO_293002 := n3_; have HO_293003 := n4_; have HO_293004 := n5_; have HO299 := n6_; have HO302 := n7_; have HO305 := n8_; have BK263 := n9_; have BK279 := n10_; have BK292 := n11_; have HB := n12_; clear n0_ n1_ n2_ n3_ n4_ n5_ n6_ n7_ n8_ n9_ n10_ n11_ n12_; (try clear hb); (try clear hb2); (try clear hk); (try clear hi); (try clear ho0); (try clear ho1); (try clear ho2); have hnb109 := NB279_292.out; have hnc109 := NB292_279.out; have hcz110_0 : w108.cell? ⟨gb279, 0, none⟩ = some (.int .i64 t267) := (blk_cell BK279.out 0).trans rfl; have hcz110_1 : w108.cell? ⟨gb279, 1, none⟩ = some (.int .i64 t268) := (blk_cell BK279.out 1).trans rfl; have hcz110_2 : w108.cell? ⟨gb279, 2, none⟩ = some (.slice Ao60 t269.length co60) := (blk_cell BK279.out 2).trans rfl; have hcz110_3 : w108.cell? ⟨gb279, 3, none⟩ = some (.slice Ao61 t272.length co61) := (blk_cell BK279.out 3).trans rfl; have hcz110_4 : w108.cell? ⟨gb279, 4, none⟩ = some (.slice Ao62 t275.length co62) := (blk_cell BK279.out 4).trans rfl; have hfz110_0 := blk_frozen BK279.out 0; have hfz110_1 := blk_frozen BK279.out 1; have hfz110_2 := blk_frozen BK279.out 2; have hfz110_3 := blk_frozen BK279.out 3; have hfz110_4 := blk_frozen BK279.out 4; obtain ⟨Ao111, co111, eo111⟩ := Kd.R_slice HO299.out; subst eo111; obtain ⟨Ao112, co112, eo112⟩ := Kd.R_slice HO302.out; subst eo112; obtain ⟨Ao113, co113, eo113⟩ := Kd.R_slice HO305.out; subst eo113) | ((with_reducible refine gate_callee (f := 19) rfl ?_); refine goesL_ (some 149) rfl rfl Try.func19 (by kernel_rfl) rfl #[.int .i64 16, .int .i64 16] rfl (by (try simp only [List.map_toArray, List.map_cons, List.map_nil]); first | done | rfl | (simp only [List.length_drop, List.length_take]; rfl)) ?_; (with_reducible refine (cutroomref07_Blank.calls 16 16 t307 t308 t309 t312 t315 _ A99.out).mono ?_); rintro e w114 ⟨v310, v313, v316, rfl, ho0, ho1, ho2, hb⟩; refine ⟨_, rfl, ?_⟩; have n0_ := Aside0.mk (Kd.R_mono (Kd.R_told (Kd.R_told (Kd.R_told (Kd.R_old (by (with_reducible repeat (first | apply Kd.R_alloc | apply Kd.R_drewN | apply Kd.R_drew)); exact (Kd.R_mono (Kd.R_far (p := ⟨gb279, 4, none⟩) (Kd.R_far (p := ⟨gb279, 3, none⟩) (Kd.R_far (p := ⟨gb279, 2, none⟩) (Kd.R_far (p := ⟨gb279, 1, none⟩) (Kd.R_far (p := ⟨gb279, 0, none⟩) (Kd.R_types HO_280002.out BK279.out (by decide)) (fun _ hk => hk.2) (.int .i64 t295)) (fun _ hk => hk.2) (.int .i64 t296)) (fun _ hk => hk.2) (.slice Ao111 t297.length co111)) (fun _ hk => hk.2) (.slice Ao112 t300.length co112)) (fun _ hk => hk.2) (.slice Ao113 t303.length co113)) (fun _ h_ => h_.1))) hb) (Kd.R_base ho0)) (Kd.R_base ho1)) (Kd.R_base ho2)) (fun _ h_ => h_.1)); have n1_ := Aside0.mk (Kd.R_mono (Kd.R_told (Kd.R_told (Kd.R_told (Kd.R_old (by (with_reducible repeat (first | apply Kd.R_alloc | apply Kd.R_drewN | apply Kd.R_drew)); exact (Kd.R_mono (Kd.R_far (p := ⟨gb279, 4, none⟩) (Kd.R_far (p := ⟨gb279, 3, none⟩) (Kd.R_far (p := ⟨gb279, 2, none⟩) (Kd.R_far (p := ⟨gb279, 1, none⟩) (Kd.R_far (p := ⟨gb279, 0, none⟩) (Kd.R_types HO_280003.out BK279.out (by decide)) (fun _ hk => hk.2) (.int .i64 t295)) (fun _ hk => hk.2) (.int .i64 t296)) (fun _ hk => hk.2) (.slice Ao111 t297.length co111)) (fun _ hk => hk.2) (.slice Ao112 t300.length co112)) (fun _ hk => hk.2) (.slice Ao113 t303.length co113)) (fun _ h_ => h_.1))) hb) (Kd.R_base ho0)) (Kd.R_base ho1)) (Kd.R_base ho2)) (fun _ h_ => h_.1)); have n2_ := Aside0.mk (Kd.R_mono (Kd.R_told (Kd.R_told (Kd.R_told (Kd.R_old (by (with_reducible repeat (first | apply Kd.R_alloc | apply Kd.R_drewN | apply Kd.R_drew)); exact (Kd.R_mono (Kd.R_far (p := ⟨gb279, 4, none⟩) (Kd.R_far (p := ⟨gb279, 3, none⟩) (Kd.R_far (p := ⟨gb279, 2, none⟩) (Kd.R_far (p := ⟨gb279, 1, none⟩) (Kd.R_far (p := ⟨gb279, 0, none⟩) (Kd.R_types HO_280004.out BK279.out (by decide)) (fun _ hk => hk.2) (.int .i64 t295)) (fun _ hk => hk.2) (.int .i64 t296)) (fun _ hk => hk.2) (.slice Ao111 t297.length co111)) (fun _ hk => hk.2) (.slice Ao112 t300.length co112)) (fun _ hk => hk.2) (.slice Ao113 t303.length co113)) (fun _ h_ => h_.1))) hb) (Kd.R_base ho0)) (Kd.R_base ho1)) (Kd.R_base ho2)) (fun _ h_ => h_.1)); have n3_ := Aside0.mk (Kd.R_mono (Kd.R_told (Kd.R_told (Kd.R_told (Kd.R_old (by (with_reducible repeat (first | apply Kd.R_alloc | apply Kd.R_drewN | apply Kd.R_drew)); exact (Kd.R_mono (Kd.R_far (p := ⟨gb279, 4, none⟩) (Kd.R_far (p := ⟨gb279, 3, none⟩) (Kd.R_far (p := ⟨gb279, 2, none⟩) (Kd.R_far (p := ⟨gb279, 1, none⟩) (Kd.R_far (p := ⟨gb279, 0, none⟩) (Kd.R_types HO_293002.out BK279.out (by decide)) (fun _ hk => hk.2) (.int .i64 t295)) (fun _ hk => hk.2) (.int .i64 t296)) (fun _ hk => hk.2) (.slice Ao111 t297.length co111)) (fun _ hk => hk.2) (.slice Ao112 t300.length co112)) (fun _ hk => hk.2) (.slice Ao113 t303.length co113)) (fun _ h_ => h_.1))) hb) (Kd.R_base ho0)) (Kd.R_base ho1)) (Kd.R_base ho2)) (fun _ h_ => h_.1)); have n4_ := Aside0.mk (Kd.R_mono (Kd.R_told (Kd.R_told (Kd.R_told (Kd.R_old (by (with_reducible repeat (first | apply Kd.R_alloc | apply Kd.R_drewN | apply Kd.R_drew)); exact (Kd.R_mono (Kd.R_far (p := ⟨gb279, 4, none⟩) (Kd.R_far (p := ⟨gb279, 3, none⟩) (Kd.R_far (p := ⟨gb279, 2, none⟩) (Kd.R_far (p := ⟨gb279, 1, none⟩) (Kd.R_far (p := ⟨gb279, 0, none⟩) (Kd.R_types HO_293003.out BK279.out (by decide)) (fun _ hk => hk.2) (.int .i64 t295)) (fun _ hk => hk.2) (.int .i64 t296)) (fun _ hk => hk.2) (.slice Ao111 t297.length co111)) (fun _ hk => hk.2) (.slice Ao112 t300.length co112)) (fun _ hk => hk.2) (.slice Ao113 t303.length co113)) (fun _ h_ => h_.1))) hb) (Kd.R_base ho0)) (Kd.R_base ho1)) (Kd.R_base ho2)) (fun _ h_ => h_.1)); have n5_ := Aside0.mk (Kd.R_mono (Kd.R_told (Kd.R_told (Kd.R_told (Kd.R_old (by (with_reducible repeat (first | apply Kd.R_alloc | apply Kd.R_drewN | apply Kd.R_drew)); exact (Kd.R_mono (Kd.R_far (p := ⟨gb279, 4, none⟩) (Kd.R_far (p := ⟨gb279, 3, none⟩) (Kd.R_far (p := ⟨gb279, 2, none⟩) (Kd.R_far (p := ⟨gb279, 1, none⟩) (Kd.R_far (p := ⟨gb279, 0, none⟩) (Kd.R_types HO_293004.out BK279.out (by decide)) (fun _ hk => hk.2) (.int .i64 t295)) (fun _ hk => hk.2) (.int .i64 t296)) (fun _ hk => hk.2) (.slice Ao111 t297.length co111)) (fun _ hk => hk.2) (.slice Ao112 t300.length co112)) (fun _ hk => hk.2) (.slice Ao113 t303.length co113)) (fun _ h_ => h_.1))) hb) (Kd.R_base ho0)) (Kd.R_base ho1)) (Kd.R_base ho2)) (fun _ h_ => h_.1)); have n6_ := Aside0.mk (Kd.R_mono (Kd.R_told (Kd.R_told (Kd.R_told (Kd.R_old (by (with_reducible repeat (first | apply Kd.R_alloc | apply Kd.R_drewN | apply Kd.R_drew)); exact (Kd.R_mono (Kd.R_far (p := ⟨gb279, 4, none⟩) (Kd.R_far (p := ⟨gb279, 3, none⟩) (Kd.R_far (p := ⟨gb279, 2, none⟩) (Kd.R_far (p := ⟨gb279, 1, none⟩) (Kd.R_far (p := ⟨gb279, 0, none⟩) (Kd.R_types HO299.out BK279.out (by decide)) (fun _ hk => hk.2) (.int .i64 t295)) (fun _ hk => hk.2) (.int .i64 t296)) (fun _ hk => hk.2) (.slice Ao111 t297.length co111)) (fun _ hk => hk.2) (.slice Ao112 t300.length co112)) (fun _ hk => hk.2) (.slice Ao113 t303.length co113)) (fun _ h_ => h_.1))) hb) (Kd.R_base ho0)) (Kd.R_base ho1)) (Kd.R_base ho2)) (fun _ h_ => h_.1)); have n7_ := Aside0.mk (Kd.R_mono (Kd.R_told (Kd.R_told (Kd.R_told (Kd.R_old (by (with_reducible repeat (first | apply Kd.R_alloc | apply Kd.R_drewN | apply Kd.R_drew)); exact (Kd.R_mono (Kd.R_far (p := ⟨gb279, 4, none⟩) (Kd.R_far (p := ⟨gb279, 3, none⟩) (Kd.R_far (p := ⟨gb279, 2, none⟩) (Kd.R_far (p := ⟨gb279, 1, none⟩) (Kd.R_far (p := ⟨gb279, 0, none⟩) (Kd.R_types HO302.out BK279.out (by decide)) (fun _ hk => hk.2) (.int .i64 t295)) (fun _ hk => hk.2) (.int .i64 t296)) (fun _ hk => hk.2) (.slice Ao111 t297.length co111)) (fun _ hk => hk.2) (.slice Ao112 t300.length co112)) (fun _ hk => hk.2) (.slice Ao113 t303.length co113)) (fun _ h_ => h_.1))) hb) (Kd.R_base ho0)) (Kd.R_base ho1)) (Kd.R_base ho2)) (fun _ h_ => h_.1)); have n8_ := Aside0.mk (Kd.R_mono (Kd.R_told (Kd.R_told (Kd.R_told (Kd.R_old (by (with_reducible repeat (first | apply Kd.R_alloc | apply Kd.R_drewN | apply Kd.R_drew)); exact (Kd.R_mono (Kd.R_far (p := ⟨gb279, 4, none⟩) (Kd.R_far (p := ⟨gb279, 3, none⟩) (Kd.R_far (p := ⟨gb279, 2, none⟩) (Kd.R_far (p := ⟨gb279, 1, none⟩) (Kd.R_far (p := ⟨gb279, 0, none⟩) (Kd.R_types HO305.out BK279.out (by decide)) (fun _ hk => hk.2) (.int .i64 t295)) (fun _ hk => hk.2) (.int .i64 t296)) (fun _ hk => hk.2) (.slice Ao111 t297.length co111)) (fun _ hk => hk.2) (.slice Ao112 t300.length co112)) (fun _ hk => hk.2) (.slice Ao113 t303.length co113)) (fun _ h_ => h_.1))) hb) (Kd.R_base ho0)) (Kd.R_base ho1)) (Kd.R_base ho2)) (fun _ h_ => h_.1)); have n9_ := Aside0.mk (Kd.R_lower (Kd.R_new' (Kd.R_new' (Kd.R_new' (Kd.R_new' (Kd.R_new' (Kd.R_new' (Kd.R_new' (Kd.R_new' (Kd.R_new' ho0 (Kd.R_lt (by (with_reducible repeat (first | apply Kd.R_alloc | apply Kd.R_drewN | apply Kd.R_drew)); exact (Kd.R_mono (Kd.R_far (p := ⟨gb279, 4, none⟩) (Kd.R_far (p := ⟨gb279, 3, none⟩) (Kd.R_far (p := ⟨gb279, 2, none⟩) (Kd.R_far (p := ⟨gb279, 1, none⟩) (Kd.R_far (p := ⟨gb279, 0, none⟩) (Kd.R_types HO_280002.out BK279.out (by decide)) (fun _ hk => hk.2) (.int .i64 t295)) (fun _ hk => hk.2) (.int .i64 t296)) (fun _ hk => hk.2) (.slice Ao111 t297.length co111)) (fun _ hk => hk.2) (.slice Ao112 t300.length co112)) (fun _ hk => hk.2) (.slice Ao113 t303.length co113)) (fun _ h_ => h_.1))))) (Kd.R_lt (by (with_reducible repeat (first | apply Kd.R_alloc | apply Kd.R_drewN | apply Kd.R_drew)); exact (Kd.R_mono (Kd.R_far (p := ⟨gb279, 4, none⟩) (Kd.R_far (p := ⟨gb279, 3, none⟩) (Kd.R_far (p := ⟨gb279, 2, none⟩) (Kd.R_far (p := ⟨gb279, 1, none⟩) (Kd.R_far (p := ⟨gb279, 0, none⟩) (Kd.R_types HO_280003.out BK279.out (by decide)) (fun _ hk => hk.2) (.int .i64 t295)) (fun _ hk => hk.2) (.int .i64 t296)) (fun _ hk => hk.2) (.slice Ao111 t297.length co111)) (fun _ hk => hk.2) (.slice Ao112 t300.length co112)) (fun _ hk => hk.2) (.slice Ao113 t303.length co113)) (fun _ h_ => h_.1))))) (Kd.R_lt (by (with_reducible repeat (first | apply Kd.R_alloc | apply Kd.R_drewN | apply Kd.R_drew)); exact (Kd.R_mono (Kd.R_far (p := ⟨gb279, 4, none⟩) (Kd.R_far (p := ⟨gb279, 3, none⟩) (Kd.R_far (p := ⟨gb279, 2, none⟩) (Kd.R_far (p := ⟨gb279, 1, none⟩) (Kd.R_far (p := ⟨gb279, 0, none⟩) (Kd.R_types HO_280004.out BK279.out (by decide)) (fun _ hk => hk.2) (.int .i64 t295)) (fun _ hk => hk.2) (.int .i64 t296)) (fun _ hk => hk.2) (.slice Ao111 t297.length co111)) (fun _ hk => hk.2) (.slice Ao112 t300.length co112)) (fun _ hk => hk.2) (.slice Ao113 t303.length co113)) (fun _ h_ => h_.1))))) (Kd.R_lt (by (with_reducible repeat (first | apply Kd.R_alloc | apply Kd.R_drewN | apply Kd.R_drew)); exact (Kd.R_mono (Kd.R_far (p := ⟨gb279, 4, none⟩) (Kd.R_far (p := ⟨gb279, 3, none⟩) (Kd.R_far (p := ⟨gb279, 2, none⟩) (Kd.R_far (p := ⟨gb279, 1, none⟩) (Kd.R_far (p := ⟨gb279, 0, none⟩) (Kd.R_types HO_293002.out BK279.out (by decide)) (fun _ hk => hk.2) (.int .i64 t295)) (fun _ hk => hk.2) (.int .i64 t296)) (fun _ hk => hk.2) (.slice Ao111 t297.length co111)) (fun _ hk => hk.2) (.slice Ao112 t300.length co112)) (fun _ hk => hk.2) (.slice Ao113 t303.length co113)) (fun _ h_ => h_.1))))) (Kd.R_lt (by (with_reducible repeat (first | apply Kd.R_alloc | apply Kd.R_drewN | apply Kd.R_drew)); exact (Kd.R_mono (Kd.R_far (p := ⟨gb279, 4, none⟩) (Kd.R_far (p := ⟨gb279, 3, none⟩) (Kd.R_far (p := ⟨gb279, 2, none⟩) (Kd.R_far (p := ⟨gb279, 1, none⟩) (Kd.R_far (p := ⟨gb279, 0, none⟩) (Kd.R_types HO_293003.out BK279.out (by decide)) (fun _ hk => hk.2) (.int .i64 t295)) (fun _ hk => hk.2) (.int .i64 t296)) (fun _ hk => hk.2) (.slice Ao111 t297.length co111)) (fun _ hk => hk.2) (.slice Ao112 t300.length co112)) (fun _ hk => hk.2) (.slice Ao113 t303.length co113)) (fun _ h_ => h_.1))))) (Kd.R_lt (by (with_reducible repeat (first | apply Kd.R_alloc | apply Kd.R_drewN | apply Kd.R_drew)); exact (Kd.R_mono (Kd.R_far (p := ⟨gb279, 4, none⟩) (Kd.R_far (p := ⟨gb279, 3, none⟩) (Kd.R_far (p := ⟨gb279, 2, none⟩) (Kd.R_far (p := ⟨gb279, 1, none⟩) (Kd.R_far (p := ⟨gb279, 0, none⟩) (Kd.R_types HO_293004.out BK279.out (by decide)) (fun _ hk => hk.2) (.int .i64 t295)) (fun _ hk => hk.2) (.int .i64 t296)) (fun _ hk => hk.2) (.slice Ao111 t297.length co111)) (fun _ hk => hk.2) (.slice Ao112 t300.length co112)) (fun _ hk => hk.2) (.slice Ao113 t303.length co113)) (fun _ h_ => h_.1))))) (Kd.R_lt (by (with_reducible repeat (first | apply Kd.R_alloc | apply Kd.R_drewN | apply Kd.R_drew)); exact (Kd.R_mono (Kd.R_far (p := ⟨gb279, 4, none⟩) (Kd.R_far (p := ⟨gb279, 3, none⟩) (Kd.R_far (p := ⟨gb279, 2, none⟩) (Kd.R_far (p := ⟨gb279, 1, none⟩) (Kd.R_far (p := ⟨gb279, 0, none⟩) (Kd.R_types HO299.out BK279.out (by decide)) (fun _ hk => hk.2) (.int .i64 t295)) (fun _ hk => hk.2) (.int .i64 t296)) (fun _ hk => hk.2) (.slice Ao111 t297.length co111)) (fun _ hk => hk.2) (.slice Ao112 t300.length co112)) (fun _ hk => hk.2) (.slice Ao113 t303.length co113)) (fun _ h_ => h_.1))))) (Kd.R_lt (by (with_reducible repeat (first | apply Kd.R_alloc | apply Kd.R_drewN | apply Kd.R_drew)); exact (Kd.R_mono (Kd.R_far (p := ⟨gb279, 4, none⟩) (Kd.R_far (p := ⟨gb279, 3, none⟩) (Kd.R_far (p := ⟨gb279, 2, none⟩) (Kd.R_far (p := ⟨gb279, 1, none⟩) (Kd.R_far (p := ⟨gb279, 0, none⟩) (Kd.R_types HO302.out BK279.out (by decide)) (fun _ hk => hk.2) (.int .i64 t295)) (fun _ hk => hk.2) (.int .i64 t296)) (fun _ hk => hk.2) (.slice Ao111 t297.length co111)) (fun _ hk => hk.2) (.slice Ao112 t300.length co112)) (fun _ hk => hk.2) (.slice Ao113 t303.length co113)) (fun _ h_ => h_.1))))) (Kd.R_lt (by (with_reducible repeat (first | apply Kd.R_alloc | apply Kd.R_drewN | apply Kd.R_drew)); exact (Kd.R_mono (Kd.R_far (p := ⟨gb279, 4, none⟩) (Kd.R_far (p := ⟨gb279, 3, none⟩) (Kd.R_far (p := ⟨gb279, 2, none⟩) (Kd.R_far (p := ⟨gb279, 1, none⟩) (Kd.R_far (p := ⟨gb279, 0, none⟩) (Kd.R_types HO305.out BK279.out (by decide)) (fun _ hk => hk.2) (.int .i64 t295)) (fun _ hk => hk.2) (.int .i64 t296)) (fun _ hk => hk.2) (.slice Ao111 t297.length co111)) (fun _ hk => hk.2) (.slice Ao112 t300.length co112)) (fun _ hk => hk.2) (.slice Ao113 t303.length co113)) (fun _ h_ => h_.1))))) (below_size (by repeat (first | (with_reducible first | exact HB.out | apply below_alloc | apply pw_below_drewN | apply below_drew1 | refine below_set ?_ GE263.out | refine below_set ?_ GE279.out | refine below_set ?_ GE292.out) | exact HB.out)))); have n10_ := Aside0.mk (Kd.R_lower (Kd.R_new' (Kd.R_new' (Kd.R_new' (Kd.R_new' (Kd.R_new' (Kd.R_new' (Kd.R_new' (Kd.R_new' (Kd.R_new' ho1 (Kd.R_lt (by (with_reducible repeat (first | apply Kd.R_alloc | apply Kd.R_drewN | apply Kd.R_drew)); exact (Kd.R_mono (Kd.R_far (p := ⟨gb279, 4, none⟩) (Kd.R_far (p := ⟨gb279, 3, none⟩) (Kd.R_far (p := ⟨gb279, 2, none⟩) (Kd.R_far (p := ⟨gb279, 1, none⟩) (Kd.R_far (p := ⟨gb279, 0, none⟩) (Kd.R_types HO_280002.out BK279.out (by decide)) (fun _ hk => hk.2) (.int .i64 t295)) (fun _ hk => hk.2) (.int .i64 t296)) (fun _ hk => hk.2) (.slice Ao111 t297.length co111)) (fun _ hk => hk.2) (.slice Ao112 t300.length co112)) (fun _ hk => hk.2) (.slice Ao113 t303.length co113)) (fun _ h_ => h_.1))))) (Kd.R_lt (by (with_reducible repeat (first | apply Kd.R_alloc | apply Kd.R_drewN | apply Kd.R_drew)); exact (Kd.R_mono (Kd.R_far (p := ⟨gb279, 4, none⟩) (Kd.R_far (p := ⟨gb279, 3, none⟩) (Kd.R_far (p := ⟨gb279, 2, none⟩) (Kd.R_far (p := ⟨gb279, 1, none⟩) (Kd.R_far (p := ⟨gb279, 0, none⟩) (Kd.R_types HO_280003.out BK279.out (by decide)) (fun _ hk => hk.2) (.int .i64 t295)) (fun _ hk => hk.2) (.int .i64 t296)) (fun _ hk => hk.2) (.slice Ao111 t297.length co111)) (fun _ hk => hk.2) (.slice Ao112 t300.length co112)) (fun _ hk => hk.2) (.slice Ao113 t303.length co113)) (fun _ h_ => h_.1))))) (Kd.R_lt (by (with_reducible repeat (first | apply Kd.R_alloc | apply Kd.R_drewN | apply Kd.R_drew)); exact (Kd.R_mono (Kd.R_far (p := ⟨gb279, 4, none⟩) (Kd.R_far (p := ⟨gb279, 3, none⟩) (Kd.R_far (p := ⟨gb279, 2, none⟩) (Kd.R_far (p := ⟨gb279, 1, none⟩) (Kd.R_far (p := ⟨gb279, 0, none⟩) (Kd.R_types HO_280004.out BK279.out (by decide)) (fun _ hk => hk.2) (.int .i64 t295)) (fun _ hk => hk.2) (.int .i64 t296)) (fun _ hk => hk.2) (.slice Ao111 t297.length co111)) (fun _ hk => hk.2) (.slice Ao112 t300.length co112)) (fun _ hk => hk.2) (.slice Ao113 t303.length co113)) (fun _ h_ => h_.1))))) (Kd.R_lt (by (with_reducible repeat (first | apply Kd.R_alloc | apply Kd.R_drewN | apply Kd.R_drew)); exact (Kd.R_mono (Kd.R_far (p := ⟨gb279, 4, none⟩) (Kd.R_far (p := ⟨gb279, 3, none⟩) (Kd.R_far (p := ⟨gb279, 2, none⟩) (Kd.R_far (p := ⟨gb279, 1, none⟩) (Kd.R_far (p := ⟨gb279, 0, none⟩) (Kd.R_types HO_293002.out BK279.out (by decide)) (fun _ hk => hk.2) (.int .i64 t295)) (fun _ hk => hk.2) (.int .i64 t296)) (fun _ hk => hk.2) (.slice Ao111 t297.length co111)) (fun _ hk => hk.2) (.slice Ao112 t300.length co112)) (fun _ hk => hk.2) (.slice Ao113 t303.length co113)) (fun _ h_ => h_.1))))) (Kd.R_lt (by (with_reducible repeat (first | apply Kd.R_alloc | apply Kd.R_drewN | apply Kd.R_drew)); exact (Kd.R_mono (Kd.R_far (p := ⟨gb279, 4, none⟩) (Kd.R_far (p := ⟨gb279, 3, none⟩) (Kd.R_far (p := ⟨gb279, 2, none⟩) (Kd.R_far (p := ⟨gb279, 1, none⟩) (Kd.R_far (p := ⟨gb279, 0, none⟩) (Kd.R_types HO_293003.out BK279.out (by decide)) (fun _ hk => hk.2) (.int .i64 t295)) (fun _ hk => hk.2) (.int .i64 t296)) (fun _ hk => hk.2) (.slice Ao111 t297.length co111)) (fun _ hk => hk.2) (.slice Ao112 t300.length co112)) (fun _ hk => hk.2) (.slice Ao113 t303.length co113)) (fun _ h_ => h_.1))))) (Kd.R_lt (by (with_reducible repeat (first | apply Kd.R_alloc | apply Kd.R_drewN | apply Kd.R_drew)); exact (Kd.R_mono (Kd.R_far (p := ⟨gb279, 4, none⟩) (Kd.R_far (p := ⟨gb279, 3, none⟩) (Kd.R_far (p := ⟨gb279, 2, none⟩) (Kd.R_far (p := ⟨gb279, 1, none⟩) (Kd.R_far (p := ⟨gb279, 0, none⟩) (Kd.R_types HO_293004.out BK279.out (by decide)) (fun _ hk => hk.2) (.int .i64 t295)) (fun _ hk => hk.2) (.int .i64 t296)) (fun _ hk => hk.2) (.slice Ao111 t297.length co111)) (fun _ hk => hk.2) (.slice Ao112 t300.length co112)) (fun _ hk => hk.2) (.slice Ao113 t303.length co113)) (fun _ h_ => h_.1))))) (Kd.R_lt (by (with_reducible repeat (first | apply Kd.R_alloc | apply Kd.R_drewN | apply Kd.R_drew)); exact (Kd.R_mono (Kd.R_far (p := ⟨gb279, 4, none⟩) (Kd.R_far (p := ⟨gb279, 3, none⟩) (Kd.R_far (p := ⟨gb279, 2, none⟩) (Kd.R_far (p := ⟨gb279, 1, none⟩) (Kd.R_far (p := ⟨gb279, 0, none⟩) (Kd.R_types HO299.out BK279.out (by decide)) (fun _ hk => hk.2) (.int .i64 t295)) (fun _ hk => hk.2) (.int .i64 t296)) (fun _ hk => hk.2) (.slice Ao111 t297.length co111)) (fun _ hk => hk.2) (.slice Ao112 t300.length co112)) (fun _ hk => hk.2) (.slice Ao113 t303.length co113)) (fun _ h_ => h_.1))))) (Kd.R_lt (by (with_reducible repeat (first | apply Kd.R_alloc | apply Kd.R_drewN | apply Kd.R_drew)); exact (Kd.R_mono (Kd.R_far (p := ⟨gb279, 4, none⟩) (Kd.R_far (p := ⟨gb279, 3, none⟩) (Kd.R_far (p := ⟨gb279, 2, none⟩) (Kd.R_far (p := ⟨gb279, 1, none⟩) (Kd.R_far (p := ⟨gb279, 0, none⟩) (Kd.R_types HO302.out BK279.out (by decide)) (fun _ hk => hk.2) (.int .i64 t295)) (fun _ hk => hk.2) (.int .i64 t296)) (fun _ hk => hk.2) (.slice Ao111 t297.length co111)) (fun _ hk => hk.2) (.slice Ao112 t300.length co112)) (fun _ hk => hk.2) (.slice Ao113 t303.length co113)) (fun _ h_ => h_.1))))) (Kd.R_lt (by (with_reducible repeat (first | apply Kd.R_alloc | apply Kd.R_drewN | apply Kd.R_drew)); exact (Kd.R_mono (Kd.R_far (p := ⟨gb279, 4, none⟩) (Kd.R_far (p := ⟨gb279, 3, none⟩) (Kd.R_far (p := ⟨gb279, 2, none⟩) (Kd.R_far (p := ⟨gb279, 1, none⟩) (Kd.R_far (p := ⟨gb279, 0, none⟩) (Kd.R_types HO305.out BK279.out (by decide)) (fun _ hk => hk.2) (.int .i64 t295)) (fun _ hk => hk.2) (.int .i64 t296)) (fun _ hk => hk.2) (.slice Ao111 t297.length co111)) (fun _ hk => hk.2) (.slice Ao112 t300.length co112)) (fun _ hk => hk.2) (.slice Ao113 t303.length co113)) (fun _ h_ => h_.1))))) (below_size (by repeat (first | (with_reducible first | exact HB.out | apply below_alloc | apply pw_below_drewN | apply below_drew1 | refine below_set ?_ GE263.out | refine below_set ?_ GE279.out | refine below_set ?_ GE292.out) | exact HB.out)))); have n11_ := Aside0.mk (Kd.R_lower (Kd.R_new' (Kd.R_new' (Kd.R_new' (Kd.R_new' (Kd.R_new' (Kd.R_new' (Kd.R_new' (Kd.R_new' (Kd.R_new' ho2 (Kd.R_lt (by (with_reducible repeat (first | apply Kd.R_alloc | apply Kd.R_drewN | apply Kd.R_drew)); exact (Kd.R_mono (Kd.R_far (p := ⟨gb279, 4, none⟩) (Kd.R_far (p := ⟨gb279, 3, none⟩) (Kd.R_far (p := ⟨gb279, 2, none⟩) (Kd.R_far (p := ⟨gb279, 1, none⟩) (Kd.R_far (p := ⟨gb279, 0, none⟩) (Kd.R_types HO_280002.out BK279.out (by decide)) (fun _ hk => hk.2) (.int .i64 t295)) (fun _ hk => hk.2) (.int .i64 t296)) (fun _ hk => hk.2) (.slice Ao111 t297.length co111)) (fun _ hk => hk.2) (.slice Ao112 t300.length co112)) (fun _ hk => hk.2) (.slice Ao113 t303.length co113)) (fun _ h_ => h_.1))))) (Kd.R_lt (by (with_reducible repeat (first | apply Kd.R_alloc | apply Kd.R_drewN | apply Kd.R_drew)); exact (Kd.R_mono (Kd.R_far (p := ⟨gb279, 4, none⟩) (Kd.R_far (p := ⟨gb279, 3, none⟩) (Kd.R_far (p := ⟨gb279, 2, none⟩) (Kd.R_far (p := ⟨gb279, 1, none⟩) (Kd.R_far (p := ⟨gb279, 0, none⟩) (Kd.R_types HO_280003.out BK279.out (by decide)) (fun _ hk => hk.2) (.int .i64 t295)) (fun _ hk => hk.2) (.int .i64 t296)) (fun _ hk => hk.2) (.slice Ao111 t297.length co111)) (fun _ hk => hk.2) (.slice Ao112 t300.length co112)) (fun _ hk => hk.2) (.slice Ao113 t303.length co113)) (fun _ h_ => h_.1))))) (Kd.R_lt (by (with_reducible repeat (first | apply Kd.R_alloc | apply Kd.R_drewN | apply Kd.R_drew)); exact (Kd.R_mono (Kd.R_far (p := ⟨gb279, 4, none⟩) (Kd.R_far (p := ⟨gb279, 3, none⟩) (Kd.R_far (p := ⟨gb279, 2, none⟩) (Kd.R_far (p := ⟨gb279, 1, none⟩) (Kd.R_far (p := ⟨gb279, 0, none⟩) (Kd.R_types HO_280004.out BK279.out (by decide)) (fun _ hk => hk.2) (.int .i64 t295)) (fun _ hk => hk.2) (.int .i64 t296)) (fun _ hk => hk.2) (.slice Ao111 t297.length co111)) (fun _ hk => hk.2) (.slice Ao112 t300.length co112)) (fun _ hk => hk.2) (.slice Ao113 t303.length co113)) (fun _ h_ => h_.1))))) (Kd.R_lt (by (with_reducible repeat (first | apply Kd.R_alloc | apply Kd.R_drewN | apply Kd.R_drew)); exact (Kd.R_mono (Kd.R_far (p := ⟨gb279, 4, none⟩) (Kd.R_far (p := ⟨gb279, 3, none⟩) (Kd.R_far (p := ⟨gb279, 2, none⟩) (Kd.R_far (p := ⟨gb279, 1, none⟩) (Kd.R_far (p := ⟨gb279, 0, none⟩) (Kd.R_types HO_293002.out BK279.out (by decide)) (fun _ hk => hk.2) (.int .i64 t295)) (fun _ hk => hk.2) (.int .i64 t296)) (fun _ hk => hk.2) (.slice Ao111 t297.length co111)) (fun _ hk => hk.2) (.slice Ao112 t300.length co112)) (fun _ hk => hk.2) (.slice Ao113 t303.length co113)) (fun _ h_ => h_.1))))) (Kd.R_lt (by (with_reducible repeat (first | apply Kd.R_alloc | apply Kd.R_drewN | apply Kd.R_drew)); exact (Kd.R_mono (Kd.R_far (p := ⟨gb279, 4, none⟩) (Kd.R_far (p := ⟨gb279, 3, none⟩) (Kd.R_far (p := ⟨gb279, 2, none⟩) (Kd.R_far (p := ⟨gb279, 1, none⟩) (Kd.R_far (p := ⟨gb279, 0, none⟩) (Kd.R_types HO_293003.out BK279.out (by decide)) (fun _ hk => hk.2) (.int .i64 t295)) (fun _ hk => hk.2) (.int .i64 t296)) (fun _ hk => hk.2) (.slice Ao111 t297.length co111)) (fun _ hk => hk.2) (.slice Ao112 t300.length co112)) (fun _ hk => hk.2) (.slice Ao113 t303.length co113)) (fun _ h_ => h_.1))))) (Kd.R_lt (by (with_reducible repeat (first | apply Kd.R_alloc | apply Kd.R_drewN | apply Kd.R_drew)); exact (Kd.R_mono (Kd.R_far (p := ⟨gb279, 4, none⟩) (Kd.R_far (p := ⟨gb279, 3, none⟩) (Kd.R_far (p := ⟨gb279, 2, none⟩) (Kd.R_far (p := ⟨gb279, 1, none⟩) (Kd.R_far (p := ⟨gb279, 0, none⟩) (Kd.R_types HO_293004.out BK279.out (by decide)) (fun _ hk => hk.2) (.int .i64 t295)) (fun _ hk => hk.2) (.int .i64 t296)) (fun _ hk => hk.2) (.slice Ao111 t297.length co111)) (fun _ hk => hk.2) (.slice Ao112 t300.length co112)) (fun _ hk => hk.2) (.slice Ao113 t303.length co113)) (fun _ h_ => h_.1))))) (Kd.R_lt (by (with_reducible repeat (first | apply Kd.R_alloc | apply Kd.R_drewN | apply Kd.R_drew)); exact (Kd.R_mono (Kd.R_far (p := ⟨gb279, 4, none⟩) (Kd.R_far (p := ⟨gb279, 3, none⟩) (Kd.R_far (p := ⟨gb279, 2, none⟩) (Kd.R_far (p := ⟨gb279, 1, none⟩) (Kd.R_far (p := ⟨gb279, 0, none⟩) (Kd.R_types HO299.out BK279.out (by decide)) (fun _ hk => hk.2) (.int .i64 t295)) (fun _ hk => hk.2) (.int .i64 t296)) (fun _ hk => hk.2) (.slice Ao111 t297.length co111)) (fun _ hk => hk.2) (.slice Ao112 t300.length co112)) (fun _ hk => hk.2) (.slice Ao113 t303.length co113)) (fun _ h_ => h_.1))))) (Kd.R_lt (by (with_reducible repeat (first | apply Kd.R_alloc | apply Kd.R_drewN | apply Kd.R_drew)); exact (Kd.R_mono (Kd.R_far (p := ⟨gb279, 4, none⟩) (Kd.R_far (p := ⟨gb279, 3, none⟩) (Kd.R_far (p := ⟨gb279, 2, none⟩) (Kd.R_far (p := ⟨gb279, 1, none⟩) (Kd.R_far (p := ⟨gb279, 0, none⟩) (Kd.R_types HO302.out BK279.out (by decide)) (fun _ hk => hk.2) (.int .i64 t295)) (fun _ hk => hk.2) (.int .i64 t296)) (fun _ hk => hk.2) (.slice Ao111 t297.length co111)) (fun _ hk => hk.2) (.slice Ao112 t300.length co112)) (fun _ hk => hk.2) (.slice Ao113 t303.length co113)) (fun _ h_ => h_.1))))) (Kd.R_lt (by (with_reducible repeat (first | apply Kd.R_alloc | apply Kd.R_drewN | apply Kd.R_drew)); exact (Kd.R_mono (Kd.R_far (p := ⟨gb279, 4, none⟩) (Kd.R_far (p := ⟨gb279, 3, none⟩) (Kd.R_far (p := ⟨gb279, 2, none⟩) (Kd.R_far (p := ⟨gb279, 1, none⟩) (Kd.R_far (p := ⟨gb279, 0, none⟩) (Kd.R_types HO305.out BK279.out (by decide)) (fun _ hk => hk.2) (.int .i64 t295)) (fun _ hk => hk.2) (.int .i64 t296)) (fun _ hk => hk.2) (.slice Ao111 t297.length co111)) (fun _ hk => hk.2) (.slice Ao112 t300.length co112)) (fun _ hk => hk.2) (.slice Ao113 t303.length co113)) (fun _ h_ => h_.1))))) (below_size (by repeat (first | (with_reducible first | exact HB.out | apply below_alloc | apply pw_below_drewN | apply below_drew1 | refine below_set ?_ GE263.out | refine below_set ?_ GE279.out | refine below_set ?_ GE292.out) | exact HB.out)))); have n12_ := Aside0.mk (blk_below (g := gb263) (o := .cells #[.int .i64 a0_0, .int .i64 a0_1, .slice A0_2 l0_2.length c0_2, .slice A0_3 l0_3.length c0_3, .slice A0_4 l0_4.length c0_4] 24 (0, 0)) (by (with_reducible repeat (first | refine blk_drewN ?_ _ | refine blk_drew ?_ | refine blk_alloc ?_ _)); refine blk_far ?_ NB263_279.out _; (with_reducible repeat (first | refine blk_drewN ?_ _ | refine blk_drew ?_ | refine blk_alloc ?_ _)); refine blk_far ?_ NB263_279.out _; (with_reducible repeat (first | refine blk_drewN ?_ _ | refine blk_drew ?_ | refine blk_alloc ?_ _)); refine blk_far ?_ NB263_279.out _; (with_reducible repeat (first | refine blk_drewN ?_ _ | refine blk_drew ?_ | refine blk_alloc ?_ _)); refine blk_far ?_ NB263_279.out _; (with_reducible repeat (first | refine blk_drewN ?_ _ | refine blk_drew ?_ | refine blk_alloc ?_ _)); refine blk_far ?_ NB263_279.out _; (with_reducible repeat (first | refine blk_drewN ?_ _ | refine blk_drew ?_ | refine blk_alloc ?_ _)); exact BK263.out) hb); have n13_ := Aside0.mk (blk_below (g := gb279) (o := .cells #[.int .i64 t295, .int .i64 t296, .slice Ao111 t297.length co111, .slice Ao112 t300.length co112, .slice Ao113 t303.length co113] 24 (0, 0)) (by (with_reducible repeat (first | refine blk_drewN ?_ _ | refine blk_drew ?_ | refine blk_alloc ?_ _)); refine blk_put (cs := #[.int .i64 t295, .int .i64 t296, .slice Ao111 t297.length co111, .slice Ao112 t300.length co112, .slice Ao62 t275.length co62]) ?_ 4 _ rfl; (with_reducible repeat (first | refine blk_drewN ?_ _ | refine blk_drew ?_ | refine blk_alloc ?_ _)); refine blk_put (cs := #[.int .i64 t295, .int .i64 t296, .slice Ao111 t297.length co111, .slice Ao61 t272.length co61, .slice Ao62 t275.length co62]) ?_ 3 _ rfl; (with_reducible repeat (first | refine blk_drewN ?_ _ | refine blk_drew ?_ | refine blk_alloc ?_ _)); refine blk_put (cs := #[.int .i64 t295, .int .i64 t296, .slice Ao60 t269.length co60, .slice Ao61 t272.length co61, .slice Ao62 t275.length co62]) ?_ 2 _ rfl; (with_reducible repeat (first | refine blk_drewN ?_ _ | refine blk_drew ?_ | refine blk_alloc ?_ _)); refine blk_put (cs := #[.int .i64 t295, .int .i64 t268, .slice Ao60 t269.length co60, .slice Ao61 t272.length co61, .slice Ao62 t275.length co62]) ?_ 1 _ rfl; (with_reducible repeat (first | refine blk_drewN ?_ _ | refine blk_drew ?_ | refine blk_alloc ?_ _)); refine blk_put (cs := #[.int .i64 t267, .int .i64 t268, .slice Ao60 t269.length co60, .slice Ao61 t272.length co61, .slice Ao62 t275.length co62]) ?_ 0 _ rfl; (with_reducible repeat (first | refine blk_drewN ?_ _ | refine blk_drew ?_ | refine blk_alloc ?_ _)); exact BK279.out) hb); have n14_ := Aside0.mk (blk_below (g := gb292) (o := .cells #[.int .i64 t280, .int .i64 t281, .slice Ao69 t282.length co69, .slice Ao70 t285.length co70, .slice Ao71 t288.length co71] 24 (0, 0)) (by (with_reducible repeat (first | refine blk_drewN ?_ _ | refine blk_drew ?_ | refine blk_alloc ?_ _)); refine blk_far ?_ NB292_279.out _; (with_reducible repeat (first | refine blk_drewN ?_ _ | refine blk_drew ?_ | refine blk_alloc ?_ _)); refine blk_far ?_ NB292_279.out _; (with_reducible repeat (first | refine blk_drewN ?_ _ | refine blk_drew ?_ | refine blk_alloc ?_ _)); refine blk_far ?_ NB292_279.out _; (with_reducible repeat (first | refine blk_drewN ?_ _ | refine blk_drew ?_ | refine blk_alloc ?_ _)); refine blk_far ?_ NB292_279.out _; (with_reducible repeat (first | refine blk_drewN ?_ _ | refine blk_drew ?_ | refine blk_alloc ?_ _)); refine blk_far ?_ NB292_279.out _; (with_reducible repeat (first | refine blk_drewN ?_ _ | refine blk_drew ?_ | refine blk_alloc ?_ _)); exact BK292.out) hb); have n15_ := Aside0.mk (below_step (by repeat (first | (with_reducible first | exact HB.out | apply below_alloc | apply pw_below_drewN | apply below_drew1 | refine below_set ?_ GE263.out | refine below_set ?_ GE279.out | refine below_set ?_ GE292.out) | exact HB.out)) hb); clear HO_280002; clear HO_280003; clear HO_280004; clear HO_293002; clear HO_293003; clear HO_293004; clear HO299; clear HO302; clear HO305; clear BK263; clear BK279; clear BK292; clear HB; have HO_280002 := n0_; have HO_280003 := n1_; have HO_280004 := n2_; have HO_293002 := n3_; have HO_293003 := n4_; have HO_293004 := n5_; have HO299 := n6_; have HO302 := n7_; have HO305 := n8_; have HO311 := n9_; have HO314 := n10_; have HO317 := n11_; have BK263 := n12_; have BK279 := n13_; have BK292 := n14_; have HB := n15_; clear n0_ n1_ n2_ n3_ n4_ n5_ n6_ n7_ n8_ n9_ n10_ n11_ n12_ n13_ n14_ n15_; (try clear hb); (try clear hb2); (try clear hk); (try clear hi); (try clear ho0); (try clear ho1); (try clear ho2)) | ((with_reducible refine gate_dst (N := 15) rfl ?_); refine box_event ?hg (N := 15) ?hd (cs := #[.int .i64 0, .int .i64 0, .slice none 0 0, .slice none 0 0, .slice none 0 0]) (t := 24) ?hr ?_; (case hd => rfl); (case hg => rfl); (case hr => first | (go_simp; done) | (go_simp; rfl)); intro gb318 hg w115 hbox hb; have n0_ := Aside0.mk (Kd.R_below (by (with_reducible repeat (first | apply Kd.R_alloc | apply Kd.R_drewN | apply Kd.R_drew)); exact HO_280002.out) hb); have n1_ := Aside0.mk (Kd.R_below (by (with_reducible repeat (first | apply Kd.R_alloc | apply Kd.R_drewN | apply Kd.R_drew)); exact HO_280003.out) hb); have n2_ := Aside0.mk (Kd.R_below (by (with_reducible repeat (first | apply Kd.R_alloc | apply Kd.R_drewN | apply Kd.R_drew)); exact HO_280004.out) hb); have n3_ := Aside0.mk (Kd.R_below (by (with_reducible repeat (first | apply Kd.R_alloc | apply Kd.R_drewN | apply Kd.R_drew)); exact HO_293002.out) hb); have n4_ := Aside0.mk (Kd.R_below (by (with_reducible repeat (first | apply Kd.R_alloc | apply Kd.R_drewN | apply Kd.R_drew)); exact HO_293003.out) hb); have n5_ := Aside0.mk (Kd.R_below (by (with_reducible repeat (first | apply Kd.R_alloc | apply Kd.R_drewN | apply Kd.R_drew)); exact HO_293004.out) hb); have n6_ := Aside0.mk (Kd.R_below (by (with_reducible repeat (first | apply Kd.R_alloc | apply Kd.R_drewN | apply Kd.R_drew)); exact HO299.out) hb); have n7_ := Aside0.mk (Kd.R_below (by (with_reducible repeat (first | apply Kd.R_alloc | apply Kd.R_drewN | apply Kd.R_drew)); exact HO302.out) hb); have n8_ := Aside0.mk (Kd.R_below (by (with_reducible repeat (first | apply Kd.R_alloc | apply Kd.R_drewN | apply Kd.R_drew)); exact HO305.out) hb); have n9_ := Aside0.mk (Kd.R_below (by (with_reducible repeat (first | apply Kd.R_alloc | apply Kd.R_drewN | apply Kd.R_drew)); exact HO311.out) hb); have n10_ := Aside0.mk (Kd.R_below (by (with_reducible repeat (first | apply Kd.R_alloc | apply Kd.R_drewN | apply Kd.R_drew)); exact HO314.out) hb); have n11_ := Aside0.mk (Kd.R_below (by (with_reducible repeat (first | apply Kd.R_alloc | apply Kd.R_drewN | apply Kd.R_drew)); exact HO317.out) hb); have n12_ := Aside0.mk (blk_below (g := gb263) (o := .cells #[.int .i64 a0_0, .int .i64 a0_1, .slice A0_2 l0_2.length c0_2, .slice A0_3 l0_3.length c0_3, .slice A0_4 l0_4.length c0_4] 24 (0, 0)) (by (with_reducible repeat (first | refine blk_drewN ?_ _ | refine blk_drew ?_ | refine blk_alloc ?_ _)); exact BK263.out) hb); have n13_ := Aside0.mk (blk_below (g := gb279) (o := .cells #[.int .i64 t295, .int .i64 t296, .slice Ao111 t297.length co111, .slice Ao112 t300.length co112, .slice Ao113 t303.length co113] 24 (0, 0)) (by (with_reducible repeat (first | refine blk_drewN ?_ _ | refine blk_drew ?_ | refine blk_alloc ?_ _)); exact BK279.out) hb); have n14_ := Aside0.mk (blk_below (g := gb292) (o := .cells #[.int .i64 t280, .int .i64 t281, .slice Ao69 t282.length co69, .slice Ao70 t285.length co70, .slice Ao71 t288.length co71] 24 (0, 0)) (by (with_reducible repeat (first | refine blk_drewN ?_ _ | refine blk_drew ?_ | refine blk_alloc ?_ _)); exact BK292.out) hb); have n15_ := Aside0.mk (below_step (by repeat (first | (with_reducible first | exact HB.out | apply below_alloc | apply pw_below_drewN | apply below_drew1 | refine below_set ?_ GE263.out | refine below_set ?_ GE279.out | refine below_set ?_ GE292.out) | exact HB.out)) hb); have n16_ := Aside0.mk (hbox); have n17_ := Aside0.mk ((by rw [hg]; exact (below_size (by repeat (first | (with_reducible first | exact HB.out | apply below_alloc | apply pw_below_drewN | apply below_drew1 | refine below_set ?_ GE263.out | refine below_set ?_ GE279.out | refine below_set ?_ GE292.out) | exact HB.out))) : w.heap.size ≤ gb318)); have n18_ := Aside0.mk ((by rw [hg]; exact (below_size (by repeat (first | (with_reducible first | exact HB.out | apply below_alloc | apply pw_below_drewN | apply below_drew1 | refine below_set ?_ GE263.out | refine below_set ?_ GE279.out | refine below_set ?_ GE292.out) | exact HB.out))) : w.heap.size ≤ gb318)); have n19_ := Aside0.mk ((by rw [hg]; exact Nat.ne_of_lt (blk_lt (g := gb263) (o := .cells #[.int .i64 a0_0, .int .i64 a0_1, .slice A0_2 l0_2.length c0_2, .slice A0_3 l0_3.length c0_3, .slice A0_4 l0_4.length c0_4] 24 (0, 0)) (by (with_reducible repeat (first | refine blk_drewN ?_ _ | refine blk_drew ?_ | refine blk_alloc ?_ _)); exact BK263.out)) : gb263 ≠ gb318)); have n20_ := Aside0.mk ((by rw [hg]; exact Nat.ne_of_gt (blk_lt (g := gb263) (o := .cells #[.int .i64 a0_0, .int .i64 a0_1, .slice A0_2 l0_2.length c0_2, .slice A0_3 l0_3.length c0_3, .slice A0_4 l0_4.length c0_4] 24 (0, 0)) (by (with_reducible repeat (first | refine blk_drewN ?_ _ | refine blk_drew ?_ | refine blk_alloc ?_ _)); exact BK263.out)) : gb318 ≠ gb263)); have n21_ := Aside0.mk ((by rw [hg]; exact Nat.ne_of_lt (blk_lt (g := gb279) (o := .cells #[.int .i64 t295, .int .i64 t296, .slice Ao111 t297.length co111, .slice Ao112 t300.length co112, .slice Ao113 t303.length co113] 24 (0, 0)) (by (with_reducible repeat (first | refine blk_drewN ?_ _ | refine blk_drew ?_ | refine blk_alloc ?_ _)); exact BK279.out)) : gb279 ≠ gb318)); have n22_ := Aside0.mk ((by rw [hg]; exact Nat.ne_of_gt (blk_lt (g := gb279) (o := .cells #[.int .i64 t295, .int .i64 t296, .slice Ao111 t297.length co111, .slice Ao112 t300.length co112, .slice Ao113 t303.length co113] 24 (0, 0)) (by (with_reducible repeat (first | refine blk_drewN ?_ _ | refine blk_drew ?_ | refine blk_alloc ?_ _)); exact BK279.out)) : gb318 ≠ gb279)); have n23_ := Aside0.mk ((by rw [hg]; exact Nat.ne_of_lt (blk_lt (g := gb292) (o := .cells #[.int .i64 t280, .int .i64 t281, .slice Ao69 t282.length co69, .slice Ao70 t285.length co70, .slice Ao71 t288.length co71] 24 (0, 0)) (by (with_reducible repeat (first | refine blk_drewN ?_ _ | refine blk_drew ?_ | refine blk_alloc ?_ _)); exact BK292.out)) : gb292 ≠ gb318)); have n24_ := Aside0.mk ((by rw [hg]; exact Nat.ne_of_gt (blk_lt (g := gb292) (o := .cells #[.int .i64 t280, .int .i64 t281, .slice Ao69 t282.length co69, .slice Ao70 t285.length co70, .slice Ao71 t288.length co71] 24 (0, 0)) (by (with_reducible repeat (first | refine blk_drewN ?_ _ | refine blk_drew ?_ | refine blk_alloc ?_ _)); exact BK292.out)) : gb318 ≠ gb292)); clear HO_280002; clear HO_280003; clear HO_280004; clear HO_293002; clear HO_293003; clear HO_293004; clear HO299; clear HO302; clear HO305; clear HO311; clear HO314; clear HO317; clear BK263; clear BK279; clear BK292; clear HB; have HO_280002 := n0_; have HO_280003 := n1_; have HO_280004 := n2_; have HO_293002 := n3_; have HO_293003 := n4_; have HO_293004 := n5_; have HO299 := n6_; have HO302 := n7_; have HO305 := n8_; have HO311 := n9_; have HO314 := n10_; have HO317 := n11_; have BK263 := n12_; have BK279 := n13_; have BK292 := n14_; have HB := n15_; have BK318 := n16_; have GW318 := n17_; have GE318 := n18_; have NB263_318 := n19_; have NB318_263 := n20_; have NB279_318 := n21_; have NB318_279 := n22_; have NB292_318 := n23_; have NB318_292 := n24_; clear n0_ n1_ n2_ n3_ n4_ n5_ n6_ n7_ n8_ n9_ n10_ n11_ n12_ n13_ n14_ n15_ n16_ n17_ n18_ n19_ n20_ n21_ n22_ n23_ n24_; clear hb hbox hg; have hnb116 := NB318_263.out; have hnc116 := NB263_318.out; have hnb117 := NB318_279.out; have hnc117 := NB279_318.out; have hnb118 := NB318_292.out; have hnc118 := NB292_318.out; have hcz119_0 : w115.cell? ⟨gb318, 0, none⟩ = some (.int .i64 0) := (blk_cell BK318.out 0).trans rfl; have hcz119_1 : w115.cell? ⟨gb318, 1, none⟩ = some (.int .i64 0) := (blk_cell BK318.out 1).trans rfl; have hcz119_2 : w115.cell? ⟨gb318, 2, none⟩ = some (.slice none 0 0) := (blk_cell BK318.out 2).trans rfl; have hcz119_3 : w115.cell? ⟨gb318, 3, none⟩ = some (.slice none 0 0) := (blk_cell BK318.out 3).trans rfl; have hcz119_4 : w115.cell? ⟨gb318, 4, none⟩ = some (.slice none 0 0) := (blk_cell BK318.out 4).trans rfl; have hfz119_0 := blk_frozen BK318.out 0; have hfz119_1 := blk_frozen BK318.out 1; have hfz119_2 := blk_frozen BK318.out 2; have hfz119_3 := blk_frozen BK318.out 3; have hfz119_4 := blk_frozen BK318.out 4; obtain ⟨Ao120, co120, eo120⟩ := Kd.R_slice HO311.out; subst eo120; obtain ⟨Ao121, co121, eo121⟩ := Kd.R_slice HO314.out; subst eo121; obtain ⟨Ao122, co122, eo122⟩ := Kd.R_slice HO317.out; subst eo122) | ((with_reducible refine gate_store (t := 24) (p := 15) rfl ?_); refine store_event (t := 24) (p := 15) (v := ?vo_w123) (w1 := (((((w115.setCell ⟨gb318, 0, none⟩ (.int .i64 t307)).setCell ⟨gb318, 1, none⟩ (.int .i64 t308)).setCell ⟨gb318, 2, none⟩ (.slice Ao120 t309.length co120)).setCell ⟨gb318, 3, none⟩ (.slice Ao121 t312.length co121)).setCell ⟨gb318, 4, none⟩ (.slice Ao122 t315.length co122))) ?hg ?ho ?hn ?hr ?_; (case ho => rfl); (case hg => rfl); (case hn => rfl); (case hr => first | (go_simp; done) | (go_simp; rfl)); intro w123 hw; have n0_ : Aside0 (Kd.R (Kd.int .u8) 5 w123 w.heap.size (fun k_ => some k_ ≠ (.slice Ao61 t272.length co61 : Value).ownBlock ∧ some k_ ≠ (.slice Ao62 t275.length co62 : Value).ownBlock ∧ some k_ ≠ (.slice Ao69 t282.length co69 : Value).ownBlock ∧ some k_ ≠ (.slice Ao70 t285.length co70 : Value).ownBlock ∧ some k_ ≠ (.slice Ao71 t288.length co71 : Value).ownBlock ∧ some k_ ≠ (.slice Ao111 t297.length co111 : Value).ownBlock ∧ some k_ ≠ (.slice Ao112 t300.length co112 : Value).ownBlock ∧ some k_ ≠ (.slice Ao113 t303.length co113 : Value).ownBlock ∧ some k_ ≠ (.slice Ao120 t309.length co120 : Value).ownBlock ∧ some k_ ≠ (.slice Ao121 t312.length co121 : Value).ownBlock ∧ some k_ ≠ (.slice Ao122 t315.length co122 : Value).ownBlock) (.slice Ao60 t269.length co60) t269) := ⟨(by rw [hw]; exact (by (with_reducible repeat (first | apply Kd.R_alloc | apply Kd.R_drewN | apply Kd.R_drew)); exact Kd.R_mono (Kd.R_far (p := ⟨gb318, 4, none⟩) (Kd.R_far (p := ⟨gb318, 3, none⟩) (Kd.R_far (p := ⟨gb318, 2, none⟩) (Kd.R_far (p := ⟨gb318, 1, none⟩) (Kd.R_far (p := ⟨gb318, 0, none⟩) (Kd.R_types HO_280002.out BK318.out (by decide)) (fun _ hk => hk.2) (.int .i64 t307)) (fun _ hk => hk.2) (.int .i64 t308)) (fun _ hk => hk.2) (.slice Ao120 t309.length co120)) (fun _ hk => hk.2) (.slice Ao121 t312.length co121)) (fun _ hk => hk.2) (.slice Ao122 t315.length co122)) (fun _ hk => ⟨hk.1.1.1.1.1.1.1.1, ⟨hk.1.1.1.1.1.1.1.2.1, ⟨hk.1.1.1.1.1.1.1.2.2.1, ⟨hk.1.1.1.1.1.1.1.2.2.2.1, ⟨hk.1.1.1.1.1.1.1.2.2.2.2, ⟨hk.1.1.1.1.1.1.2, ⟨hk.1.1.1.1.1.2, ⟨hk.1.1.1.1.2, ⟨hk.1.1.1.2, ⟨hk.1.1.2, hk.1.2⟩⟩⟩⟩⟩⟩⟩⟩⟩⟩)))⟩; have n1_ : Aside0 (Kd.R (Kd.int .u8) 5 w123 w.heap.size (fun k_ => some k_ ≠ (.slice Ao60 t269.length co60 : Value).ownBlock ∧ some k_ ≠ (.slice Ao62 t275.length co62 : Value).ownBlock ∧ some k_ ≠ (.slice Ao69 t282.length co69 : Value).ownBlock ∧ some k_ ≠ (.slice Ao70 t285.length co70 : Value).ownBlock ∧ some k_ ≠ (.slice Ao71 t288.length co71 : Value).ownBlock ∧ some k_ ≠ (.slice Ao111 t297.length co111 : Value).ownBlock ∧ some k_ ≠ (.slice Ao112 t300.length co112 : Value).ownBlock ∧ some k_ ≠ (.slice Ao113 t303.length co113 : Value).ownBlock ∧ some k_ ≠ (.slice Ao120 t309.length co120 : Value).ownBlock ∧ some k_ ≠ (.slice Ao121 t312.length co121 : Value).ownBlock ∧ some k_ ≠ (.slice Ao122 t315.length co122 : Value).ownBlock) (.slice Ao61 t272.length co61) t272) := ⟨(by rw [hw]; exact (by (with_reducible repeat (first | apply Kd.R_alloc | apply Kd.R_drewN | apply Kd.R_drew)); exact Kd.R_mono (Kd.R_far (p := ⟨gb318, 4, none⟩) (Kd.R_far (p := ⟨gb318, 3, none⟩) (Kd.R_far (p := ⟨gb318, 2, none⟩) (Kd.R_far (p := ⟨gb318, 1, none⟩) (Kd.R_far (p := ⟨gb318, 0, none⟩) (Kd.R_types HO_280003.out BK318.out (by decide)) (fun _ hk => hk.2) (.int .i64 t307)) (fun _ hk => hk.2) (.int .i64 t308)) (fun _ hk => hk.2) (.slice Ao120 t309.length co120)) (fun _ hk => hk.2) (.slice Ao121 t312.length co121)) (fun _ hk => hk.2) (.slice Ao122 t315.length co122)) (fun _ hk => ⟨hk.1.1.1.1.1.1.1.1, ⟨hk.1.1.1.1.1.1.1.2.1, ⟨hk.1.1.1.1.1.1.1.2.2.1, ⟨hk.1.1.1.1.1.1.1.2.2.2.1, ⟨hk.1.1.1.1.1.1.1.2.2.2.2, ⟨hk.1.1.1.1.1.1.2, ⟨hk.1.1.1.1.1.2, ⟨hk.1.1.1.1.2, ⟨hk.1.1.1.2, ⟨hk.1.1.2, hk.1.2⟩⟩⟩⟩⟩⟩⟩⟩⟩⟩)))⟩; have n2_ : Aside0 (Kd.R (Kd.int .u8) 5 w123 w.heap.size (fun k_ => some k_ ≠ (.slice Ao60 t269.length co60 : Value).ownBlock ∧ some k_ ≠ (.slice Ao61 t272.length co61 : Value).ownBlock ∧ some k_ ≠ (.slice Ao69 t282.length co69 : Value).ownBlock ∧ some k_ ≠ (.slice Ao70 t285.length co70 : Value).ownBlock ∧ some k_ ≠ (.slice Ao71 t288.length co71 : Value).ownBlock ∧ some k_ ≠ (.slice Ao111 t297.length co111 : Value).ownBlock ∧ some k_ ≠ (.slice Ao112 t300.length co112 : Value).ownBlock ∧ some k_ ≠ (.slice Ao113 t303.length co113 : Value).ownBlock ∧ some k_ ≠ (.slice Ao120 t309.length co120 : Value).ownBlock ∧ some k_ ≠ (.slice Ao121 t312.length co121 : Value).ownBlock ∧ some k_ ≠ (.slice Ao122 t315.length co122 : Value).ownBlock) (.slice Ao62 t275.length co62) t275) := ⟨(by rw [hw]; exact (by (with_reducible repeat (first | apply Kd.R_alloc | apply Kd.R_drewN | apply Kd.R_drew)); exact Kd.R_mono (Kd.R_far (p := ⟨gb318, 4, none⟩) (Kd.R_far (p := ⟨gb318, 3, none⟩) (Kd.R_far (p := ⟨gb318, 2, none⟩) (Kd.R_far (p := ⟨gb318, 1, none⟩) (Kd.R_far (p := ⟨gb318, 0, none⟩) (Kd.R_types HO_280004.out BK318.out (by decide)) (fun _ hk => hk.2) (.int .i64 t307)) (fun _ hk => hk.2) (.int .i64 t308)) (fun _ hk => hk.2) (.slice Ao120 t309.length co120)) (fun _ hk => hk.2) (.slice Ao121 t312.length co121)) (fun _ hk => hk.2) (.slice Ao122 t315.length co122)) (fun _ hk => ⟨hk.1.1.1.1.1.1.1.1, ⟨hk.1.1.1.1.1.1.1.2.1, ⟨hk.1.1.1.1.1.1.1.2.2.1, ⟨hk.1.1.1.1.1.1.1.2.2.2.1, ⟨hk.1.1.1.1.1.1.1.2.2.2.2, ⟨hk.1.1.1.1.1.1.2, ⟨hk.1.1.1.1.1.2, ⟨hk.1.1.1.1.2, ⟨hk.1.1.1.2, ⟨hk.1.1.2, hk.1.2⟩⟩⟩⟩⟩⟩⟩⟩⟩⟩)))⟩; have n3_ : Aside0 (Kd.R (Kd.int .u8) 5 w123 w.heap.size (fun k_ => some k_ ≠ (.slice Ao60 t269.length co60 : Value).ownBlock ∧ some k_ ≠ (.slice Ao61 t272.length co61 : Value).ownBlock ∧ some k_ ≠ (.slice Ao62 t275.length co62 : Value).ownBlock ∧ some k_ ≠ (.slice Ao70 t285.length co70 : Value).ownBlock ∧ some k_ ≠ (.slice Ao71 t288.length co71 : Value).ownBlock ∧ some k_ ≠ (.slice Ao111 t297.length co111 : Value).ownBlock ∧ some k_ ≠ (.slice Ao112 t300.length co112 : Value).ownBlock ∧ some k_ ≠ (.slice Ao113 t303.length co113 : Value).ownBlock ∧ some k_ ≠ (.slice Ao120 t309.length co120 : Value).ownBlock ∧ some k_ ≠ (.slice Ao121 t312.length co121 : Value).ownBlock ∧ some k_ ≠ (.slice Ao122 t315.length co122 : Value).ownBlock) (.slice Ao69 t282.length co69) t282) := ⟨(by rw [hw]; exact (by (with_reducible repeat (first | apply Kd.R_alloc | apply Kd.R_drewN | apply Kd.R_drew)); exact Kd.R_mono (Kd.R_far (p := ⟨gb318, 4, none⟩) (Kd.R_far (p := ⟨gb318, 3, none⟩) (Kd.R_far (p := ⟨gb318, 2, none⟩) (Kd.R_far (p := ⟨gb318, 1, none⟩) (Kd.R_far (p := ⟨gb318, 0, none⟩) (Kd.R_types HO_293002.out BK318.out (by decide)) (fun _ hk => hk.2) (.int .i64 t307)) (fun _ hk => hk.2) (.int .i64 t308)) (fun _ hk => hk.2) (.slice Ao120 t309.length co120)) (fun _ hk => hk.2) (.slice Ao121 t312.length co121)) (fun _ hk => hk.2) (.slice Ao122 t315.length co122)) (fun _ hk => ⟨hk.1.1.1.1.1.1.1.1, ⟨hk.1.1.1.1.1.1.1.2.1, ⟨hk.1.1.1.1.1.1.1.2.2.1, ⟨hk.1.1.1.1.1.1.1.2.2.2.1, ⟨hk.1.1.1.1.1.1.1.2.2.2.2, ⟨hk.1.1.1.1.1.1.2, ⟨hk.1.1.1.1.1.2, ⟨hk.1.1.1.1.2, ⟨hk.1.1.1.2, ⟨hk.1.1.2, hk.1.2⟩⟩⟩⟩⟩⟩⟩⟩⟩⟩)))⟩; have n4_ : Aside0 (Kd.R (Kd.int .u8) 5 w123 w.heap.size (fun k_ => some k_ ≠ (.slice Ao60 t269.length co60 : Value).ownBlock ∧ some k_ ≠ (.slice Ao61 t272.length co61 : Value).ownBlock ∧ some k_ ≠ (.slice Ao62 t275.length co62 : Value).ownBlock ∧ some k_ ≠ (.slice Ao69 t282.length co69 : Value).ownBlock ∧ some k_ ≠ (.slice Ao71 t288.length co71 : Value).ownBlock ∧ some k_ ≠ (.slice Ao111 t297.length co111 : Value).ownBlock ∧ some k_ ≠ (.slice Ao112 t300.length co112 : Value).ownBlock ∧ some k_ ≠ (.slice Ao113 t303.length co113 : Value).ownBlock ∧ some k_ ≠ (.slice Ao120 t309.length co120 : Value).ownBlock ∧ some k_ ≠ (.slice Ao121 t312.length co121 : Value).ownBlock ∧ some k_ ≠ (.slice Ao122 t315.length co122 : Value).ownBlock) (.slice Ao70 t285.length co70) t285) := ⟨(by rw [hw]; exact (by (with_reducible repeat (first | apply Kd.R_alloc | apply Kd.R_drewN | apply Kd.R_drew)); exact Kd.R_mono (Kd.R_far (p := ⟨gb318, 4, none⟩) (Kd.R_far (p := ⟨gb318, 3, none⟩) (Kd.R_far (p := ⟨gb318, 2, none⟩) (Kd.R_far (p := ⟨gb318, 1, none⟩) (Kd.R_far (p := ⟨gb318, 0, none⟩) (Kd.R_types HO_293003.out BK318.out (by decide)) (fun _ hk => hk.2) (.int .i64 t307)) (fun _ hk => hk.2) (.int .i64 t308)) (fun _ hk => hk.2) (.slice Ao120 t309.length co120)) (fun _ hk => hk.2) (.slice Ao121 t312.length co121)) (fun _ hk => hk.2) (.slice Ao122 t315.length co122)) (fun _ hk => ⟨hk.1.1.1.1.1.1.1.1, ⟨hk.1.1.1.1.1.1.1.2.1, ⟨hk.1.1.1.1.1.1.1.2.2.1, ⟨hk.1.1.1.1.1.1.1.2.2.2.1, ⟨hk.1.1.1.1.1.1.1.2.2.2.2, ⟨hk.1.1.1.1.1.1.2, ⟨hk.1.1.1.1.1.2, ⟨hk.1.1.1.1.2, ⟨hk.1.1.1.2, ⟨hk.1.1.2, hk.1.2⟩⟩⟩⟩⟩⟩⟩⟩⟩⟩)))⟩; have n5_ : Aside0 (Kd.R (Kd.int .u8) 5 w123 w.heap.size (fun k_ => some k_ ≠ (.slice Ao60 t269.length co60 : Value).ownBlock ∧ some k_ ≠ (.slice Ao61 t272.length co61 : Value).ownBlock ∧ some k_ ≠ (.slice Ao62 t275.length co62 : Value).ownBlock ∧ some k_ ≠ (.slice Ao69 t282.length co69 : Value).ownBlock ∧ some k_ ≠ (.slice Ao70 t285.length co70 : Value).ownBlock ∧ some k_ ≠ (.slice Ao111 t297.length co111 : Value).ownBlock ∧ some k_ ≠ (.slice Ao112 t300.length co112 : Value).ownBlock ∧ some k_ ≠ (.slice Ao113 t303.length co113 : Value).ownBlock ∧ some k_ ≠ (.slice Ao120 t309.length co120 : Value).ownBlock ∧ some k_ ≠ (.slice Ao121 t312.length co121 : Value).ownBlock ∧ some k_ ≠ (.slice Ao122 t315.length co122 : Value).ownBlock) (.slice Ao71 t288.length co71) t288) := ⟨(by rw [hw]; exact (by (with_reducible repeat (first | apply Kd.R_alloc | apply Kd.R_drewN | apply Kd.R_drew)); exact Kd.R_mono (Kd.R_far (p := ⟨gb318, 4, none⟩) (Kd.R_far (p := ⟨gb318, 3, none⟩) (Kd.R_far (p := ⟨gb318, 2, none⟩) (Kd.R_far (p := ⟨gb318, 1, none⟩) (Kd.R_far (p := ⟨gb318, 0, none⟩) (Kd.R_types HO_293004.out BK318.out (by decide)) (fun _ hk => hk.2) (.int .i64 t307)) (fun _ hk => hk.2) (.int .i64 t308)) (fun _ hk => hk.2) (.slice Ao120 t309.length co120)) (fun _ hk => hk.2) (.slice Ao121 t312.length co121)) (fun _ hk => hk.2) (.slice Ao122 t315.length co122)) (fun _ hk => ⟨hk.1.1.1.1.1.1.1.1, ⟨hk.1.1.1.1.1.1.1.2.1, ⟨hk.1.1.1.1.1.1.1.2.2.1, ⟨hk.1.1.1.1.1.1.1.2.2.2.1, ⟨hk.1.1.1.1.1.1.1.2.2.2.2, ⟨hk.1.1.1.1.1.1.2, ⟨hk.1.1.1.1.1.2, ⟨hk.1.1.1.1.2, ⟨hk.1.1.1.2, ⟨hk.1.1.2, hk.1.2⟩⟩⟩⟩⟩⟩⟩⟩⟩⟩)))⟩; have n6_ : Aside0 (Kd.R (Kd.int .u8) 5 w123 w.heap.size (fun k_ => some k_ ≠ (.slice Ao60 t269.length co60 : Value).ownBlock ∧ some k_ ≠ (.slice Ao61 t272.length co61 : Value).ownBlock ∧ some k_ ≠ (.slice Ao62 t275.length co62 : Value).ownBlock ∧ some k_ ≠ (.slice Ao69 t282.length co69 : Value).ownBlock ∧ some k_ ≠ (.slice Ao70 t285.length co70 : Value).ownBlock ∧ some k_ ≠ (.slice Ao71 t288.length co71 : Value).ownBlock ∧ some k_ ≠ (.slice Ao112 t300.length co112 : Value).ownBlock ∧ some k_ ≠ (.slice Ao113 t303.length co113 : Value).ownBlock ∧ some k_ ≠ (.slice Ao120 t309.length co120 : Value).ownBlock ∧ some k_ ≠ (.slice Ao121 t312.length co121 : Value).ownBlock ∧ some k_ ≠ (.slice Ao122 t315.length co122 : Value).ownBlock) (.slice Ao111 t297.length co111) t297) := ⟨(by rw [hw]; exact (by (with_reducible repeat (first | apply Kd.R_alloc | apply Kd.R_drewN | apply Kd.R_drew)); exact Kd.R_mono (Kd.R_far (p := ⟨gb318, 4, none⟩) (Kd.R_far (p := ⟨gb318, 3, none⟩) (Kd.R_far (p := ⟨gb318, 2, none⟩) (Kd.R_far (p := ⟨gb318, 1, none⟩) (Kd.R_far (p := ⟨gb318, 0, none⟩) (Kd.R_types HO299.out BK318.out (by decide)) (fun _ hk => hk.2) (.int .i64 t307)) (fun _ hk => hk.2) (.int .i64 t308)) (fun _ hk => hk.2) (.slice Ao120 t309.length co120)) (fun _ hk => hk.2) (.slice Ao121 t312.length co121)) (fun _ hk => hk.2) (.slice Ao122 t315.length co122)) (fun _ hk => ⟨hk.1.1.1.1.1.1.1.1.1.2, ⟨hk.1.1.1.1.1.1.1.1.2, ⟨hk.1.1.1.1.1.1.1.2, ⟨hk.1.1.1.1.1.1.2, ⟨hk.1.1.1.1.1.2, ⟨hk.1.1.1.1.2, ⟨hk.1.1.1.1.1.1.1.1.1.1.1, ⟨hk.1.1.1.1.1.1.1.1.1.1.2, ⟨hk.1.1.1.2, ⟨hk.1.1.2, hk.1.2⟩⟩⟩⟩⟩⟩⟩⟩⟩⟩)))⟩; have n7_ : Aside0 (Kd.R (Kd.int .u8) 5 w123 w.heap.size (fun k_ => some k_ ≠ (.slice Ao60 t269.length co60 : Value).ownBlock ∧ some k_ ≠ (.slice Ao61 t272.length co61 : Value).ownBlock ∧ some k_ ≠ (.slice Ao62 t275.length co62 : Value).ownBlock ∧ some k_ ≠ (.slice Ao69 t282.length co69 : Value).ownBlock ∧ some k_ ≠ (.slice Ao70 t285.length co70 : Value).ownBlock ∧ some k_ ≠ (.slice Ao71 t288.length co71 : Value).ownBlock ∧ some k_ ≠ (.slice Ao111 t297.length co111 : Value).ownBlock ∧ some k_ ≠ (.slice Ao113 t303.length co113 : Value).ownBlock ∧ some k_ ≠ (.slice Ao120 t309.length co120 : Value).ownBlock ∧ some k_ ≠ (.slice Ao121 t312.length co121 : Value).ownBlock ∧ some k_ ≠ (.slice Ao122 t315.length co122 : Value).ownBlock) (.slice Ao112 t300.length co112) t300) := ⟨(by rw [hw]; exact (by (with_reducible repeat (first | apply Kd.R_alloc | apply Kd.R_drewN | apply Kd.R_drew)); exact Kd.R_mono (Kd.R_far (p := ⟨gb318, 4, none⟩) (Kd.R_far (p := ⟨gb318, 3, none⟩) (Kd.R_far (p := ⟨gb318, 2, none⟩) (Kd.R_far (p := ⟨gb318, 1, none⟩) (Kd.R_far (p := ⟨gb318, 0, none⟩) (Kd.R_types HO302.out BK318.out (by decide)) (fun _ hk => hk.2) (.int .i64 t307)) (fun _ hk => hk.2) (.int .i64 t308)) (fun _ hk => hk.2) (.slice Ao120 t309.length co120)) (fun _ hk => hk.2) (.slice Ao121 t312.length co121)) (fun _ hk => hk.2) (.slice Ao122 t315.length co122)) (fun _ hk => ⟨hk.1.1.1.1.1.1.1.1.1.2, ⟨hk.1.1.1.1.1.1.1.1.2, ⟨hk.1.1.1.1.1.1.1.2, ⟨hk.1.1.1.1.1.1.2, ⟨hk.1.1.1.1.1.2, ⟨hk.1.1.1.1.2, ⟨hk.1.1.1.1.1.1.1.1.1.1.1, ⟨hk.1.1.1.1.1.1.1.1.1.1.2, ⟨hk.1.1.1.2, ⟨hk.1.1.2, hk.1.2⟩⟩⟩⟩⟩⟩⟩⟩⟩⟩)))⟩; have n8_ : Aside0 (Kd.R (Kd.int .u8) 5 w123 w.heap.size (fun k_ => some k_ ≠ (.slice Ao60 t269.length co60 : Value).ownBlock ∧ some k_ ≠ (.slice Ao61 t272.length co61 : Value).ownBlock ∧ some k_ ≠ (.slice Ao62 t275.length co62 : Value).ownBlock ∧ some k_ ≠ (.slice Ao69 t282.length co69 : Value).ownBlock ∧ some k_ ≠ (.slice Ao70 t285.length co70 : Value).ownBlock ∧ some k_ ≠ (.slice Ao71 t288.length co71 : Value).ownBlock ∧ some k_ ≠ (.slice Ao111 t297.length co111 : Value).ownBlock ∧ some k_ ≠ (.slice Ao112 t300.length co112 : Value).ownBlock ∧ some k_ ≠ (.slice Ao120 t309.length co120 : Value).ownBlock ∧ some k_ ≠ (.slice Ao121 t312.length co121 : Value).ownBlock ∧ some k_ ≠ (.slice Ao122 t315.length co122 : Value).ownBlock) (.slice Ao113 t303.length co113) t303) := ⟨(by rw [hw]; exact (by (with_reducible repeat (first | apply Kd.R_alloc | apply Kd.R_drewN | apply Kd.R_drew)); exact Kd.R_mono (Kd.R_far (p := ⟨gb318, 4, none⟩) (Kd.R_far (p := ⟨gb318, 3, none⟩) (Kd.R_far (p := ⟨gb318, 2, none⟩) (Kd.R_far (p := ⟨gb318, 1, none⟩) (Kd.R_far (p := ⟨gb318, 0, none⟩) (Kd.R_types HO305.out BK318.out (by decide)) (fun _ hk => hk.2) (.int .i64 t307)) (fun _ hk => hk.2) (.int .i64 t308)) (fun _ hk => hk.2) (.slice Ao120 t309.length co120)) (fun _ hk => hk.2) (.slice Ao121 t312.length co121)) (fun _ hk => hk.2) (.slice Ao122 t315.length co122)) (fun _ hk => ⟨hk.1.1.1.1.1.1.1.1.1.2, ⟨hk.1.1.1.1.1.1.1.1.2, ⟨hk.1.1.1.1.1.1.1.2, ⟨hk.1.1.1.1.1.1.2, ⟨hk.1.1.1.1.1.2, ⟨hk.1.1.1.1.2, ⟨hk.1.1.1.1.1.1.1.1.1.1.1, ⟨hk.1.1.1.1.1.1.1.1.1.1.2, ⟨hk.1.1.1.2, ⟨hk.1.1.2, hk.1.2⟩⟩⟩⟩⟩⟩⟩⟩⟩⟩)))⟩; have n9_ : Aside0 (Kd.R (Kd.int .u8) 5 w123 w.heap.size (fun k_ => some k_ ≠ (.slice Ao60 t269.length co60 : Value).ownBlock ∧ some k_ ≠ (.slice Ao61 t272.length co61 : Value).ownBlock ∧ some k_ ≠ (.slice Ao62 t275.length co62 : Value).ownBlock ∧ some k_ ≠ (.slice Ao69 t282.length co69 : Value).ownBlock ∧ some k_ ≠ (.slice Ao70 t285.length co70 : Value).ownBlock ∧ some k_ ≠ (.slice Ao71 t288.length co71 : Value).ownBlock ∧ some k_ ≠ (.slice Ao111 t297.length co111 : Value).ownBlock ∧ some k_ ≠ (.slice Ao112 t300.length co112 : Value).ownBlock ∧ some k_ ≠ (.slice Ao113 t303.length co113 : Value).ownBlock ∧ some k_ ≠ (.slice Ao121 t312.length co121 : Value).ownBlock ∧ some k_ ≠ (.slice Ao122 t315.length co122 : Value).ownBlock) (.slice Ao120 t309.length co120) t309) := ⟨(by rw [hw]; exact (by (with_reducible repeat (first | apply Kd.R_alloc | apply Kd.R_drewN | apply Kd.R_drew)); exact Kd.R_mono (Kd.R_far (p := ⟨gb318, 4, none⟩) (Kd.R_far (p := ⟨gb318, 3, none⟩) (Kd.R_far (p := ⟨gb318, 2, none⟩) (Kd.R_far (p := ⟨gb318, 1, none⟩) (Kd.R_far (p := ⟨gb318, 0, none⟩) (Kd.R_types HO311.out BK318.out (by decide)) (fun _ hk => hk.2) (.int .i64 t307)) (fun _ hk => hk.2) (.int .i64 t308)) (fun _ hk => hk.2) (.slice Ao120 t309.length co120)) (fun _ hk => hk.2) (.slice Ao121 t312.length co121)) (fun _ hk => hk.2) (.slice Ao122 t315.length co122)) (fun _ hk => ⟨hk.1.1.1.1.1.1.1.1.1.2, ⟨hk.1.1.1.1.1.1.1.1.2, ⟨hk.1.1.1.1.1.1.1.2, ⟨hk.1.1.1.1.1.1.2, ⟨hk.1.1.1.1.1.2, ⟨hk.1.1.1.1.2, ⟨hk.1.1.1.2, ⟨hk.1.1.2, ⟨hk.1.2, ⟨hk.1.1.1.1.1.1.1.1.1.1.1, hk.1.1.1.1.1.1.1.1.1.1.2⟩⟩⟩⟩⟩⟩⟩⟩⟩⟩)))⟩; have n10_ : Aside0 (Kd.R (Kd.int .u8) 5 w123 w.heap.size (fun k_ => some k_ ≠ (.slice Ao60 t269.length co60 : Value).ownBlock ∧ some k_ ≠ (.slice Ao61 t272.length co61 : Value).ownBlock ∧ some k_ ≠ (.slice Ao62 t275.length co62 : Value).ownBlock ∧ some k_ ≠ (.slice Ao69 t282.length co69 : Value).ownBlock ∧ some k_ ≠ (.slice Ao70 t285.length co70 : Value).ownBlock ∧ some k_ ≠ (.slice Ao71 t288.length co71 : Value).ownBlock ∧ some k_ ≠ (.slice Ao111 t297.length co111 : Value).ownBlock ∧ some k_ ≠ (.slice Ao112 t300.length co112 : Value).ownBlock ∧ some k_ ≠ (.slice Ao113 t303.length co113 : Value).ownBlock ∧ some k_ ≠ (.slice Ao120 t309.length co120 : Value).ownBlock ∧ some k_ ≠ (.slice Ao122 t315.length co122 : Value).ownBlock) (.slice Ao121 t312.length co121) t312) := ⟨(by rw [hw]; exact (by (with_reducible repeat (first | apply Kd.R_alloc | apply Kd.R_drewN | apply Kd.R_drew)); exact Kd.R_mono (Kd.R_far (p := ⟨gb318, 4, none⟩) (Kd.R_far (p := ⟨gb318, 3, none⟩) (Kd.R_far (p := ⟨gb318, 2, none⟩) (Kd.R_far (p := ⟨gb318, 1, none⟩) (Kd.R_far (p := ⟨gb318, 0, none⟩) (Kd.R_types HO314.out BK318.out (by decide)) (fun _ hk => hk.2) (.int .i64 t307)) (fun _ hk => hk.2) (.int .i64 t308)) (fun _ hk => hk.2) (.slice Ao120 t309.length co120)) (fun _ hk => hk.2) (.slice Ao121 t312.length co121)) (fun _ hk => hk.2) (.slice Ao122 t315.length co122)) (fun _ hk => ⟨hk.1.1.1.1.1.1.1.1.1.2, ⟨hk.1.1.1.1.1.1.1.1.2, ⟨hk.1.1.1.1.1.1.1.2, ⟨hk.1.1.1.1.1.1.2, ⟨hk.1.1.1.1.1.2, ⟨hk.1.1.1.1.2, ⟨hk.1.1.1.2, ⟨hk.1.1.2, ⟨hk.1.2, ⟨hk.1.1.1.1.1.1.1.1.1.1.1, hk.1.1.1.1.1.1.1.1.1.1.2⟩⟩⟩⟩⟩⟩⟩⟩⟩⟩)))⟩; have n11_ : Aside0 (Kd.R (Kd.int .u8) 5 w123 w.heap.size (fun k_ => some k_ ≠ (.slice Ao60 t269.length co60 : Value).ownBlock ∧ some k_ ≠ (.slice Ao61 t272.length co61 : Value).ownBlock ∧ some k_ ≠ (.slice Ao62 t275.length co62 : Value).ownBlock ∧ some k_ ≠ (.slice Ao69 t282.length co69 : Value).ownBlock ∧ some k_ ≠ (.slice Ao70 t285.length co70 : Value).ownBlock ∧ some k_ ≠ (.slice Ao71 t288.length co71 : Value).ownBlock ∧ some k_ ≠ (.slice Ao111 t297.length co111 : Value).ownBlock ∧ some k_ ≠ (.slice Ao112 t300.length co112 : Value).ownBlock ∧ some k_ ≠ (.slice Ao113 t303.length co113 : Value).ownBlock ∧ some k_ ≠ (.slice Ao120 t309.length co120 : Value).ownBlock ∧ some k_ ≠ (.slice Ao121 t312.length co121 : Value).ownBlock) (.slice Ao122 t315.length co122) t315) := ⟨(by rw [hw]; exact (by (with_reducible repeat (first | apply Kd.R_alloc | apply Kd.R_drewN | apply Kd.R_drew)); exact Kd.R_mono (Kd.R_far (p := ⟨gb318, 4, none⟩) (Kd.R_far (p := ⟨gb318, 3, none⟩) (Kd.R_far (p := ⟨gb318, 2, none⟩) (Kd.R_far (p := ⟨gb318, 1, none⟩) (Kd.R_far (p := ⟨gb318, 0, none⟩) (Kd.R_types HO317.out BK318.out (by decide)) (fun _ hk => hk.2) (.int .i64 t307)) (fun _ hk => hk.2) (.int .i64 t308)) (fun _ hk => hk.2) (.slice Ao120 t309.length co120)) (fun _ hk => hk.2) (.slice Ao121 t312.length co121)) (fun _ hk => hk.2) (.slice Ao122 t315.length co122)) (fun _ hk => ⟨hk.1.1.1.1.1.1.1.1.1.2, ⟨hk.1.1.1.1.1.1.1.1.2, ⟨hk.1.1.1.1.1.1.1.2, ⟨hk.1.1.1.1.1.1.2, ⟨hk.1.1.1.1.1.2, ⟨hk.1.1.1.1.2, ⟨hk.1.1.1.2, ⟨hk.1.1.2, ⟨hk.1.2, ⟨hk.1.1.1.1.1.1.1.1.1.1.1, hk.1.1.1.1.1.1.1.1.1.1.2⟩⟩⟩⟩⟩⟩⟩⟩⟩⟩)))⟩; have n12_ : Aside0 (w123.heap[gb263]? = some (.cells #[.int .i64 a0_0, .int .i64 a0_1, .slice A0_2 l0_2.length c0_2, .slice A0_3 l0_3.length c0_3, .slice A0_4 l0_4.length c0_4] 24 (0, 0))) := ⟨(by rw [hw]; exact (by (with_reducible repeat (first | refine blk_drewN ?_ _ | refine blk_drew ?_ | refine blk_alloc ?_ _)); refine blk_far ?_ NB263_318.out _; (with_reducible repeat (first | refine blk_drewN ?_ _ | refine blk_drew ?_ | refine blk_alloc ?_ _)); refine blk_far ?_ NB263_318.out _; (with_reducible repeat (first | refine blk_drewN ?_ _ | refine blk_drew ?_ | refine blk_alloc ?_ _)); refine blk_far ?_ NB263_318.out _; (with_reducible repeat (first | refine blk_drewN ?_ _ | refine blk_drew ?_ | refine blk_alloc ?_ _)); refine blk_far ?_ NB263_318.out _; (with_reducible repeat (first | refine blk_drewN ?_ _ | refine blk_drew ?_ | refine blk_alloc ?_ _)); refine blk_far ?_ NB263_318.out _; (with_reducible repeat (first | refine blk_drewN ?_ _ | refine blk_drew ?_ | refine blk_alloc ?_ _)); exact BK263.out))⟩; have n13_ : Aside0 (w123.heap[gb279]? = some (.cells #[.int .i64 t295, .int .i64 t296, .slice Ao111 t297.length co111, .slice Ao112 t300.length co112, .slice Ao113 t303.length co113] 24 (0, 0))) := ⟨(by rw [hw]; exact (by (with_reducible repeat (first | refine blk_drewN ?_ _ | refine blk_drew ?_ | refine blk_alloc ?_ _)); refine blk_far ?_ NB279_318.out _; (with_reducible repeat (first | refine blk_drewN ?_ _ | refine blk_drew ?_ | refine blk_alloc ?_ _)); refine blk_far ?_ NB279_318.out _; (with_reducible repeat (first | refine blk_drewN ?_ _ | refine blk_drew ?_ | refine blk_alloc ?_ _)); refine blk_far ?_ NB279_318.out _; (with_reducible repeat (first | refine blk_drewN ?_ _ | refine blk_drew ?_ | refine blk_alloc ?_ _)); refine blk_far ?_ NB279_318.out _; (with_reducible repeat (first | refine blk_drewN ?_ _ | refine blk_drew ?_ | refine blk_alloc ?_ _)); refine blk_far ?_ NB279_318.out _; (with_reducible repeat (first | refine blk_drewN ?_ _ | refine blk_drew ?_ | refine blk_alloc ?_ _)); exact BK279.out))⟩; have n14_ : Aside0 (w123.heap[gb292]? = some (.cells #[.int .i64 t280, .int .i64 t281, .slice Ao69 t282.length co69, .slice Ao70 t285.length co70, .slice Ao71 t288.length co71] 24 (0, 0))) := ⟨(by rw [hw]; exact (by (with_reducible repeat (first | refine blk_drewN ?_ _ | refine blk_drew ?_ | refine blk_alloc ?_ _)); refine blk_far ?_ NB292_318.out _; (with_reducible repeat (first | refine blk_drewN ?_ _ | refine blk_drew ?_ | refine blk_alloc ?_ _)); refine blk_far ?_ NB292_318.out _; (with_reducible repeat (first | refine blk_drewN ?_ _ | refine blk_drew ?_ | refine blk_alloc ?_ _)); refine blk_far ?_ NB292_318.out _; (with_reducible repeat (first | refine blk_drewN ?_ _ | refine blk_drew ?_ | refine blk_alloc ?_ _)); refine blk_far ?_ NB292_318.out _; (with_reducible repeat (first | refine blk_drewN ?_ _ | refine blk_drew ?_ | refine blk_alloc ?_ _)); refine blk_far ?_ NB292_318.out _; (with_reducible repeat (first | refine blk_drewN ?_ _ | refine blk_drew ?_ | refine blk_alloc ?_ _)); exact BK292.out))⟩; have n15_ : Aside0 (w123.heap[gb318]? = some (.cells #[.int .i64 t307, .int .i64 t308, .slice Ao120 t309.length co120, .slice Ao121 t312.length co121, .slice Ao122 t315.length co122] 24 (0, 0))) := ⟨(by rw [hw]; exact (by (with_reducible repeat (first | refine blk_drewN ?_ _ | refine blk_drew ?_ | refine blk_alloc ?_ _)); refine blk_put (cs := #[.int .i64 t307, .int .i64 t308, .slice Ao120 t309.length co120, .slice Ao121 t312.length co121, .slice none 0 0]) ?_ 4 _ rfl; (with_reducible repeat (first | refine blk_drewN ?_ _ | refine blk_drew ?_ | refine blk_alloc ?_ _)); refine blk_put (cs := #[.int .i64 t307, .int .i64 t308, .slice Ao120 t309.length co120, .slice none 0 0, .slice none 0 0]) ?_ 3 _ rfl; (with_reducible repeat (first | refine blk_drewN ?_ _ | refine blk_drew ?_ | refine blk_alloc ?_ _)); refine blk_put (cs := #[.int .i64 t307, .int .i64 t308, .slice none 0 0, .slice none 0 0, .slice none 0 0]) ?_ 2 _ rfl; (with_reducible repeat (first | refine blk_drewN ?_ _ | refine blk_drew ?_ | refine blk_alloc ?_ _)); refine blk_put (cs := #[.int .i64 t307, .int .i64 0, .slice none 0 0, .slice none 0 0, .slice none 0 0]) ?_ 1 _ rfl; (with_reducible repeat (first | refine blk_drewN ?_ _ | refine blk_drew ?_ | refine blk_alloc ?_ _)); refine blk_put (cs := #[.int .i64 0, .int .i64 0, .slice none 0 0, .slice none 0 0, .slice none 0 0]) ?_ 0 _ rfl; (with_reducible repeat (first | refine blk_drewN ?_ _ | refine blk_drew ?_ | refine blk_alloc ?_ _)); exact BK318.out))⟩; have n16_ : Aside0 (Below w.heap.size w w123) := ⟨(by rw [hw]; exact (by repeat (first | (with_reducible first | exact HB.out | apply below_alloc | apply pw_below_drewN | apply below_drew1 | refine below_set ?_ GE263.out | refine below_set ?_ GE279.out | refine below_set ?_ GE292.out | refine below_set ?_ GE318.out) | exact HB.out)))⟩; clear hw; clear HO_280002; clear HO_280003; clear HO_280004; clear HO_293002; clear HO_293003; clear HO_293004; clear HO299; clear HO302; clear HO305; clear HO311; clear HO314; clear HO317; clear BK263; clear BK279; clear BK292; clear BK318; clear HB; have HO_280002 := n0_; have HO_280003 := n1_; have HO_280004 := n2_; have HO_293002 := n3_; have HO_293003 := n4_; have HO_293004 := n5_; have HO299 := n6_; have HO302 := n7_; have HO305 := n8_; have HO311 := n9_; have HO314 := n10_; have HO317 := n11_; have BK263 := n12_; have BK279 := n13_; have BK292 := n14_; have BK318 := n15_; have HB := n16_; clear n0_ n1_ n2_ n3_ n4_ n5_ n6_ n7_ n8_ n9_ n10_ n11_ n12_ n13_ n14_ n15_ n16_; have hcz124_0 : w123.cell? ⟨gb318, 0, none⟩ = some (.int .i64 t307) := (blk_cell BK318.out 0).trans rfl; have hcz124_1 : w123.cell? ⟨gb318, 1, none⟩ = some (.int .i64 t308) := (blk_cell BK318.out 1).trans rfl; have hcz124_2 : w123.cell? ⟨gb318, 2, none⟩ = some (.slice Ao120 t309.length co120) := (blk_cell BK318.out 2).trans rfl; have hcz124_3 : w123.cell? ⟨gb318, 3, none⟩ = some (.slice Ao121 t312.length co121) := (blk_cell BK318.out 3).trans rfl; have hcz124_4 : w123.cell? ⟨gb318, 4, none⟩ = some (.slice Ao122 t315.length co122) := (blk_cell BK318.out 4).trans rfl; have hfz124_0 := blk_frozen BK318.out 0; have hfz124_1 := blk_frozen BK318.out 1; have hfz124_2 := blk_frozen BK318.out 2; have hfz124_3 := blk_frozen BK318.out 3; have hfz124_4 := blk_frozen BK318.out 4; have hcz125_0 : w123.cell? ⟨gb263, 0, none⟩ = some (.int .i64 a0_0) := (blk_cell BK263.out 0).trans rfl; have hcz125_1 : w123.cell? ⟨gb263, 1, none⟩ = some (.int .i64 a0_1) := (blk_cell BK263.out 1).trans rfl; have hcz125_2 : w123.cell? ⟨gb263, 2, none⟩ = some (.slice A0_2 l0_2.length c0_2) := (blk_cell BK263.out 2).trans rfl; have hcz125_3 : w123.cell? ⟨gb263, 3, none⟩ = some (.slice A0_3 l0_3.length c0_3) := (blk_cell BK263.out 3).trans rfl; have hcz125_4 : w123.cell? ⟨gb263, 4, none⟩ = some (.slice A0_4 l0_4.length c0_4) := (blk_cell BK263.out 4).trans rfl; have hfz125_0 := blk_frozen BK263.out 0; have hfz125_1 := blk_frozen BK263.out 1; have hfz125_2 := blk_frozen BK263.out 2; have hfz125_3 := blk_frozen BK263.out 3; have hfz125_4 := blk_frozen BK263.out 4) | ((with_reducible refine gate_callee (f := 20) rfl ?_); refine goesL_ (some 162) rfl rfl Try.func20 (by kernel_rfl) rfl #[.agg #[.int .i64 t307, .int .i64 t308, .slice Ao120 t309.length co120, .slice Ao121 t312.length co121, .slice Ao122 t315.length co122], .int .i64 0, .int .i64 0, .agg #[.int .i64 a0_0, .int .i64 a0_1, .slice A0_2 l0_2.length c0_2, .slice A0_3 l0_3.length c0_3, .slice A0_4 l0_4.length c0_4], .int .i64 (wrap64 ((wrap64 (16 * a1)) + (wrap64 (2 * a3)))), .int .i64 (wrap64 ((wrap64 (16 * a2)) + (wrap64 (2 * a4)))), .int .i64 16, .int .i64 16] rfl (by (try simp only [List.map_toArray, List.map_cons, List.map_nil]); first | done | rfl | (simp only [List.length_drop, List.length_take]; rfl)) ?_; (with_reducible refine (cutroomref07_Paste.calls kj80 t307 t308 (fun k_ => some k_ = (.slice Ao120 t309.length co120 : Value).ownBlock) (.slice Ao120 t309.length co120) t309 (fun k_ => some k_ = (.slice Ao121 t312.length co121 : Value).ownBlock) (.slice Ao121 t312.length co121) t312 (fun k_ => some k_ = (.slice Ao122 t315.length co122 : Value).ownBlock) (.slice Ao122 t315.length co122) t315 0 0 a0_0 a0_1 _ _ l0_2 _ _ l0_3 _ _ l0_4 (wrap64 ((wrap64 (16 * a1)) + (wrap64 (2 * a3)))) (wrap64 ((wrap64 (16 * a2)) + (wrap64 (2 * a4)))) 16 16 t319 t320 t321 w _ ?side1 ?side2 ?side3 ?side4 ?side5 ?side6 ?side7 ?side8 ?side9 ?side10 ?side11 ?side12 ?side13 ?side14 ?side15 ?side16 A100.out).mono ?_); (case side1 => repeat (first | (with_reducible first | exact HB.out | apply below_alloc | apply pw_below_drewN | apply below_drew1 | refine below_set ?_ GE263.out | refine below_set ?_ GE279.out | refine below_set ?_ GE292.out | refine below_set ?_ GE318.out) | exact HB.out)); (case side2 => exact Kd.R_tight rfl HO311.out); (case side3 => exact fun k_ e_ => (HO311.out.1 k_ e_.symm).2.2.2.2.2.2.2.2.2.1); (case side4 => exact fun k_ e_ => (HO311.out.1 k_ e_.symm).2.2.2.2.2.2.2.2.2.2); (case side5 => exact Kd.R_tight rfl HO314.out); (case side6 => exact fun k_ e_ => (HO314.out.1 k_ e_.symm).2.2.2.2.2.2.2.2.2.1); (case side7 => exact fun k_ e_ => (HO314.out.1 k_ e_.symm).2.2.2.2.2.2.2.2.2.2); (case side8 => exact Kd.R_tight rfl HO317.out); (case side9 => exact fun k_ e_ => (HO317.out.1 k_ e_.symm).2.2.2.2.2.2.2.2.2.1); (case side10 => exact fun k_ e_ => (HO317.out.1 k_ e_.symm).2.2.2.2.2.2.2.2.2.2); (case side11 => exact Kd.C_kept_came (Kd.heap_int .u8) HR0_2.out (by repeat (first | (with_reducible first | exact HB.out | apply below_alloc | apply pw_below_drewN | apply below_drew1 | refine below_set ?_ GE263.out | refine below_set ?_ GE279.out | refine below_set ?_ GE292.out | refine below_set ?_ GE318.out) | exact HB.out)) (fun k_ hs_ => Or.elim hs_ (fun e_ => (fun e_ => Kd.R_base HO311.out k_ e_.symm) e_) (fun e_ => Or.elim e_ (fun e_ => (fun e_ => Kd.R_base HO314.out k_ e_.symm) e_) (fun e_ => (fun e_ => Kd.R_base HO317.out k_ e_.symm) e_)))); (case side12 => exact HC0_2.out); (case side13 => exact Kd.C_kept_came (Kd.heap_int .u8) HR0_3.out (by repeat (first | (with_reducible first | exact HB.out | apply below_alloc | apply pw_below_drewN | apply below_drew1 | refine below_set ?_ GE263.out | refine below_set ?_ GE279.out | refine below_set ?_ GE292.out | refine below_set ?_ GE318.out) | exact HB.out)) (fun k_ hs_ => Or.elim hs_ (fun e_ => (fun e_ => Kd.R_base HO311.out k_ e_.symm) e_) (fun e_ => Or.elim e_ (fun e_ => (fun e_ => Kd.R_base HO314.out k_ e_.symm) e_) (fun e_ => (fun e_ => Kd.R_base HO317.out k_ e_.symm) e_)))); (case side14 => exact HC0_3.out); (case side15 => exact Kd.C_kept_came (Kd.heap_int .u8) HR0_4.out (by repeat (first | (with_reducible first | exact HB.out | apply below_alloc | apply pw_below_drewN | apply below_drew1 | refine below_set ?_ GE263.out | refine below_set ?_ GE279.out | refine below_set ?_ GE292.out | refine below_set ?_ GE318.out) | exact HB.out)) (fun k_ hs_ => Or.elim hs_ (fun e_ => (fun e_ => Kd.R_base HO311.out k_ e_.symm) e_) (fun e_ => Or.elim e_ (fun e_ => (fun e_ => Kd.R_base HO314.out k_ e_.symm) e_) (fun e_ => (fun e_ => Kd.R_base HO317.out k_ e_.symm) e_)))); (case side16 => exact HC0_4.out); rintro e w126 ⟨rfl, hy0, hy1, hy2, hb, hkp⟩; refine ⟨_, rfl, ?_⟩; have n0_ := Aside0.mk (Kd.R_mono (ok' := fun k_ => some k_ ≠ (.slice Ao61 t272.length co61 : Value).ownBlock ∧ some k_ ≠ (.slice Ao62 t275.length co62 : Value).ownBlock ∧ some k_ ≠ (.slice Ao69 t282.length co69 : Value).ownBlock ∧ some k_ ≠ (.slice Ao70 t285.length co70 : Value).ownBlock ∧ some k_ ≠ (.slice Ao71 t288.length co71 : Value).ownBlock ∧ some k_ ≠ (.slice Ao111 t297.length co111 : Value).ownBlock ∧ some k_ ≠ (.slice Ao112 t300.length co112 : Value).ownBlock ∧ some k_ ≠ (.slice Ao113 t303.length co113 : Value).ownBlock ∧ some k_ ≠ (.slice Ao120 t309.length co120 : Value).ownBlock ∧ some k_ ≠ (.slice Ao121 t312.length co121 : Value).ownBlock ∧ some k_ ≠ (.slice Ao122 t315.length co122 : Value).ownBlock) (Kd.R_keptB (HO_280002.out) hkp (fun k_ hk_ hs_ => Or.elim hs_ (fun e_ => (hk_.2.2.2.2.2.2.2.2.1) e_) (fun e_ => Or.elim e_ (fun e_ => (hk_.2.2.2.2.2.2.2.2.2.1) e_) (fun e_ => (hk_.2.2.2.2.2.2.2.2.2.2) e_)))) (fun k_ hk_ => ⟨hk_.1.1, hk_.1.2.1, hk_.1.2.2.1, hk_.1.2.2.2.1, hk_.1.2.2.2.2.1, hk_.1.2.2.2.2.2.1, hk_.1.2.2.2.2.2.2.1, hk_.1.2.2.2.2.2.2.2.1, hk_.1.2.2.2.2.2.2.2.2.1, hk_.1.2.2.2.2.2.2.2.2.2.1, hk_.1.2.2.2.2.2.2.2.2.2.2⟩)); have n1_ := Aside0.mk (Kd.R_mono (ok' := fun k_ => some k_ ≠ (.slice Ao60 t269.length co60 : Value).ownBlock ∧ some k_ ≠ (.slice Ao62 t275.length co62 : Value).ownBlock ∧ some k_ ≠ (.slice Ao69 t282.length co69 : Value).ownBlock ∧ some k_ ≠ (.slice Ao70 t285.length co70 : Value).ownBlock ∧ some k_ ≠ (.slice Ao71 t288.length co71 : Value).ownBlock ∧ some k_ ≠ (.slice Ao111 t297.length co111 : Value).ownBlock ∧ some k_ ≠ (.slice Ao112 t300.length co112 : Value).ownBlock ∧ some k_ ≠ (.slice Ao113 t303.length co113 : Value).ownBlock ∧ some k_ ≠ (.slice Ao120 t309.length co120 : Value).ownBlock ∧ some k_ ≠ (.slice Ao121 t312.length co121 : Value).ownBlock ∧ some k_ ≠ (.slice Ao122 t315.length co122 : Value).ownBlock) (Kd.R_keptB (HO_280003.out) hkp (fun k_ hk_ hs_ => Or.elim hs_ (fun e_ => (hk_.2.2.2.2.2.2.2.2.1) e_) (fun e_ => Or.elim e_ (fun e_ => (hk_.2.2.2.2.2.2.2.2.2.1) e_) (fun e_ => (hk_.2.2.2.2.2.2.2.2.2.2) e_)))) (fun k_ hk_ => ⟨hk_.1.1, hk_.1.2.1, hk_.1.2.2.1, hk_.1.2.2.2.1, hk_.1.2.2.2.2.1, hk_.1.2.2.2.2.2.1, hk_.1.2.2.2.2.2.2.1, hk_.1.2.2.2.2.2.2.2.1, hk_.1.2.2.2.2.2.2.2.2.1, hk_.1.2.2.2.2.2.2.2.2.2.1, hk_.1.2.2.2.2.2.2.2.2.2.2⟩)); have n2_ := Aside0.mk (Kd.R_mono (ok' := fun k_ => some k_ ≠ (.slice Ao60 t269.length co60 : Value).ownBlock ∧ some k_ ≠ (.slice Ao61 t272.length co61 : Value).ownBlock ∧ some k_ ≠ (.slice Ao69 t282.length co69 : Value).ownBlock ∧ some k_ ≠ (.slice Ao70 t285.length co70 : Value).ownBlock ∧ some k_ ≠ (.slice Ao71 t288.length co71 : Value).ownBlock ∧ some k_ ≠ (.slice Ao111 t297.length co111 : Value).ownBlock ∧ some k_ ≠ (.slice Ao112 t300.length co112 : Value).ownBlock ∧ some k_ ≠ (.slice Ao113 t303.length co113 : Value).ownBlock ∧ some k_ ≠ (.slice Ao120 t309.length co120 : Value).ownBlock ∧ some k_ ≠ (.slice Ao121 t312.length co121 : Value).ownBlock ∧ some k_ ≠ (.slice Ao122 t315.length co122 : Value).ownBlock) (Kd.R_keptB (HO_280004.out) hkp (fun k_ hk_ hs_ => Or.elim hs_ (fun e_ => (hk_.2.2.2.2.2.2.2.2.1) e_) (fun e_ => Or.elim e_ (fun e_ => (hk_.2.2.2.2.2.2.2.2.2.1) e_) (fun e_ => (hk_.2.2.2.2.2.2.2.2.2.2) e_)))) (fun k_ hk_ => ⟨hk_.1.1, hk_.1.2.1, hk_.1.2.2.1, hk_.1.2.2.2.1, hk_.1.2.2.2.2.1, hk_.1.2.2.2.2.2.1, hk_.1.2.2.2.2.2.2.1, hk_.1.2.2.2.2.2.2.2.1, hk_.1.2.2.2.2.2.2.2.2.1, hk_.1.2.2.2.2.2.2.2.2.2.1, hk_.1.2.2.2.2.2.2.2.2.2.2⟩)); have n3_ := Aside0.mk (Kd.R_mono (ok' := fun k_ => some k_ ≠ (.slice Ao60 t269.length co60 : Value).ownBlock ∧ some k_ ≠ (.slice Ao61 t272.length co61 : Value).ownBlock ∧ some k_ ≠ (.slice Ao62 t275.length co62 : Value).ownBlock ∧ some k_ ≠ (.slice Ao70 t285.length co70 : Value).ownBlock ∧ some k_ ≠ (.slice Ao71 t288.length co71 : Value).ownBlock ∧ some k_ ≠ (.slice Ao111 t297.length co111 : Value).ownBlock ∧ some k_ ≠ (.slice Ao112 t300.length co112 : Value).ownBlock ∧ some k_ ≠ (.slice Ao113 t303.length co113 : Value).ownBlock ∧ some k_ ≠ (.slice Ao120 t309.length co120 : Value).ownBlock ∧ some k_ ≠ (.slice Ao121 t312.length co121 : Value).ownBlock ∧ some k_ ≠ (.slice Ao122 t315.length co122 : Value).ownBlock) (Kd.R_keptB (HO_293002.out) hkp (fun k_ hk_ hs_ => Or.elim hs_ (fun e_ => (hk_.2.2.2.2.2.2.2.2.1) e_) (fun e_ => Or.elim e_ (fun e_ => (hk_.2.2.2.2.2.2.2.2.2.1) e_) (fun e_ => (hk_.2.2.2.2.2.2.2.2.2.2) e_)))) (fun k_ hk_ => ⟨hk_.1.1, hk_.1.2.1, hk_.1.2.2.1, hk_.1.2.2.2.1, hk_.1.2.2.2.2.1, hk_.1.2.2.2.2.2.1, hk_.1.2.2.2.2.2.2.1, hk_.1.2.2.2.2.2.2.2.1, hk_.1.2.2.2.2.2.2.2.2.1, hk_.1.2.2.2.2.2.2.2.2.2.1, hk_.1.2.2.2.2.2.2.2.2.2.2⟩)); have n4_ := Aside0.mk (Kd.R_mono (ok' := fun k_ => some k_ ≠ (.slice Ao60 t269.length co60 : Value).ownBlock ∧ some k_ ≠ (.slice Ao61 t272.length co61 : Value).ownBlock ∧ some k_ ≠ (.slice Ao62 t275.length co62 : Value).ownBlock ∧ some k_ ≠ (.slice Ao69 t282.length co69 : Value).ownBlock ∧ some k_ ≠ (.slice Ao71 t288.length co71 : Value).ownBlock ∧ some k_ ≠ (.slice Ao111 t297.length co111 : Value).ownBlock ∧ some k_ ≠ (.slice Ao112 t300.length co112 : Value).ownBlock ∧ some k_ ≠ (.slice Ao113 t303.length co113 : Value).ownBlock ∧ some k_ ≠ (.slice Ao120 t309.length co120 : Value).ownBlock ∧ some k_ ≠ (.slice Ao121 t312.length co121 : Value).ownBlock ∧ some k_ ≠ (.slice Ao122 t315.length co122 : Value).ownBlock) (Kd.R_keptB (HO_293003.out) hkp (fun k_ hk_ hs_ => Or.elim hs_ (fun e_ => (hk_.2.2.2.2.2.2.2.2.1) e_) (fun e_ => Or.elim e_ (fun e_ => (hk_.2.2.2.2.2.2.2.2.2.1) e_) (fun e_ => (hk_.2.2.2.2.2.2.2.2.2.2) e_)))) (fun k_ hk_ => ⟨hk_.1.1, hk_.1.2.1, hk_.1.2.2.1, hk_.1.2.2.2.1, hk_.1.2.2.2.2.1, hk_.1.2.2.2.2.2.1, hk_.1.2.2.2.2.2.2.1, hk_.1.2.2.2.2.2.2.2.1, hk_.1.2.2.2.2.2.2.2.2.1, hk_.1.2.2.2.2.2.2.2.2.2.1, hk_.1.2.2.2.2.2.2.2.2.2.2⟩)); have n5_ := Aside0.mk (Kd.R_mono (ok' := fun k_ => some k_ ≠ (.slice Ao60 t269.length co60 : Value).ownBlock ∧ some k_ ≠ (.slice Ao61 t272.length co61 : Value).ownBlock ∧ some k_ ≠ (.slice Ao62 t275.length co62 : Value).ownBlock ∧ some k_ ≠ (.slice Ao69 t282.length co69 : Value).ownBlock ∧ some k_ ≠ (.slice Ao70 t285.length co70 : Value).ownBlock ∧ some k_ ≠ (.slice Ao111 t297.length co111 : Value).ownBlock ∧ some k_ ≠ (.slice Ao112 t300.length co112 : Value).ownBlock ∧ some k_ ≠ (.slice Ao113 t303.length co113 : Value).ownBlock ∧ some k_ ≠ (.slice Ao120 t309.length co120 : Value).ownBlock ∧ some k_ ≠ (.slice Ao121 t312.length co121 : Value).ownBlock ∧ some k_ ≠ (.slice Ao122 t315.length co122 : Value).ownBlock) (Kd.R_keptB (HO_293004.out) hkp (fun k_ hk_ hs_ => Or.elim hs_ (fun e_ => (hk_.2.2.2.2.2.2.2.2.1) e_) (fun e_ => Or.elim e_ (fun e_ => (hk_.2.2.2.2.2.2.2.2.2.1) e_) (fun e_ => (hk_.2.2.2.2.2.2.2.2.2.2) e_)))) (fun k_ hk_ => ⟨hk_.1.1, hk_.1.2.1, hk_.1.2.2.1, hk_.1.2.2.2.1, hk_.1.2.2.2.2.1, hk_.1.2.2.2.2.2.1, hk_.1.2.2.2.2.2.2.1, hk_.1.2.2.2.2.2.2.2.1, hk_.1.2.2.2.2.2.2.2.2.1, hk_.1.2.2.2.2.2.2.2.2.2.1, hk_.1.2.2.2.2.2.2.2.2.2.2⟩)); have n6_ := Aside0.mk (blk_kept (by (with_reducible repeat (first | refine blk_drewN ?_ _ | refine blk_drew ?_ | refine blk_alloc ?_ _)); exact BK263.out) hkp (fun hs_ => Or.elim hs_ (fun e_ => (fun e_ => (Kd.R_ne HO311.out BK263.out (by decide)) e_) e_) (fun e_ => Or.elim e_ (fun e_ => (fun e_ => (Kd.R_ne HO314.out BK263.out (by decide)) e_) e_) (fun e_ => (fun e_ => (Kd.R_ne HO317.out BK263.out (by decide)) e_) e_)))); have n7_ := Aside0.mk (blk_kept (by (with_reducible repeat (first | refine blk_drewN ?_ _ | refine blk_drew ?_ | refine blk_alloc ?_ _)); exact BK279.out) hkp (fun hs_ => Or.elim hs_ (fun e_ => (fun e_ => (Kd.R_ne HO311.out BK279.out (by decide)) e_) e_) (fun e_ => Or.elim e_ (fun e_ => (fun e_ => (Kd.R_ne HO314.out BK279.out (by decide)) e_) e_) (fun e_ => (fun e_ => (Kd.R_ne HO317.out BK279.out (by decide)) e_) e_)))); have n8_ := Aside0.mk (blk_kept (by (with_reducible repeat (first | refine blk_drewN ?_ _ | refine blk_drew ?_ | refine blk_alloc ?_ _)); exact BK292.out) hkp (fun hs_ => Or.elim hs_ (fun e_ => (fun e_ => (Kd.R_ne HO311.out BK292.out (by decide)) e_) e_) (fun e_ => Or.elim e_ (fun e_ => (fun e_ => (Kd.R_ne HO314.out BK292.out (by decide)) e_) e_) (fun e_ => (fun e_ => (Kd.R_ne HO317.out BK292.out (by decide)) e_) e_)))); have n9_ := Aside0.mk (Kd.R_mono (ok' := fun k_ => some k_ ≠ (.slice Ao60 t269.length co60 : Value).ownBlock ∧ some k_ ≠ (.slice Ao61 t272.length co61 : Value).ownBlock ∧ some k_ ≠ (.slice Ao62 t275.length co62 : Value).ownBlock ∧ some k_ ≠ (.slice Ao69 t282.length co69 : Value).ownBlock ∧ some k_ ≠ (.slice Ao70 t285.length co70 : Value).ownBlock ∧ some k_ ≠ (.slice Ao71 t288.length co71 : Value).ownBlock ∧ some k_ ≠ (.slice Ao112 t300.length co112 : Value).ownBlock ∧ some k_ ≠ (.slice Ao113 t303.length co113 : Value).ownBlock ∧ some k_ ≠ (.slice Ao120 t309.length co120 : Value).ownBlock ∧ some k_ ≠ (.slice Ao121 t312.length co121 : Value).ownBlock ∧ some k_ ≠ (.slice Ao122 t315.length co122 : Value).ownBlock) (Kd.R_keptB (HO299.out) hkp (fun k_ hk_ hs_ => Or.elim hs_ (fun e_ => (hk_.2.2.2.2.2.2.2.2.1) e_) (fun e_ => Or.elim e_ (fun e_ => (hk_.2.2.2.2.2.2.2.2.2.1) e_) (fun e_ => (hk_.2.2.2.2.2.2.2.2.2.2) e_)))) (fun k_ hk_ => ⟨hk_.1.1, hk_.1.2.1, hk_.1.2.2.1, hk_.1.2.2.2.1, hk_.1.2.2.2.2.1, hk_.1.2.2.2.2.2.1, hk_.1.2.2.2.2.2.2.1, hk_.1.2.2.2.2.2.2.2.1, hk_.1.2.2.2.2.2.2.2.2.1, hk_.1.2.2.2.2.2.2.2.2.2.1, hk_.1.2.2.2.2.2.2.2.2.2.2⟩)); have n10_ := Aside0.mk (Kd.R_mono (ok' := fun k_ => some k_ ≠ (.slice Ao60 t269.length co60 : Value).ownBlock ∧ some k_ ≠ (.slice Ao61 t272.length co61 : Value).ownBlock ∧ some k_ ≠ (.slice Ao62 t275.length co62 : Value).ownBlock ∧ some k_ ≠ (.slice Ao69 t282.length co69 : Value).ownBlock ∧ some k_ ≠ (.slice Ao70 t285.length co70 : Value).ownBlock ∧ some k_ ≠ (.slice Ao71 t288.length co71 : Value).ownBlock ∧ some k_ ≠ (.slice Ao111 t297.length co111 : Value).ownBlock ∧ some k_ ≠ (.slice Ao113 t303.length co113 : Value).ownBlock ∧ some k_ ≠ (.slice Ao120 t309.length co120 : Value).ownBlock ∧ some k_ ≠ (.slice Ao121 t312.length co121 : Value).ownBlock ∧ some k_ ≠ (.slice Ao122 t315.length co122 : Value).ownBlock) (Kd.R_keptB (HO302.out) hkp (fun k_ hk_ hs_ => Or.elim hs_ (fun e_ => (hk_.2.2.2.2.2.2.2.2.1) e_) (fun e_ => Or.elim e_ (fun e_ => (hk_.2.2.2.2.2.2.2.2.2.1) e_) (fun e_ => (hk_.2.2.2.2.2.2.2.2.2.2) e_)))) (fun k_ hk_ => ⟨hk_.1.1, hk_.1.2.1, hk_.1.2.2.1, hk_.1.2.2.2.1, hk_.1.2.2.2.2.1, hk_.1.2.2.2.2.2.1, hk_.1.2.2.2.2.2.2.1, hk_.1.2.2.2.2.2.2.2.1, hk_.1.2.2.2.2.2.2.2.2.1, hk_.1.2.2.2.2.2.2.2.2.2.1, hk_.1.2.2.2.2.2.2.2.2.2.2⟩)); have n11_ := Aside0.mk (Kd.R_mono (ok' := fun k_ => some k_ ≠ (.slice Ao60 t269.length co60 : Value).ownBlock ∧ some k_ ≠ (.slice Ao61 t272.length co61 : Value).ownBlock ∧ some k_ ≠ (.slice Ao62 t275.length co62 : Value).ownBlock ∧ some k_ ≠ (.slice Ao69 t282.length co69 : Value).ownBlock ∧ some k_ ≠ (.slice Ao70 t285.length co70 : Value).ownBlock ∧ some k_ ≠ (.slice Ao71 t288.length co71 : Value).ownBlock ∧ some k_ ≠ (.slice Ao111 t297.length co111 : Value).ownBlock ∧ some k_ ≠ (.slice Ao112 t300.length co112 : Value).ownBlock ∧ some k_ ≠ (.slice Ao120 t309.length co120 : Value).ownBlock ∧ some k_ ≠ (.slice Ao121 t312.length co121 : Value).ownBlock ∧ some k_ ≠ (.slice Ao122 t315.length co122 : Value).ownBlock) (Kd.R_keptB (HO305.out) hkp (fun k_ hk_ hs_ => Or.elim hs_ (fun e_ => (hk_.2.2.2.2.2.2.2.2.1) e_) (fun e_ => Or.elim e_ (fun e_ => (hk_.2.2.2.2.2.2.2.2.2.1) e_) (fun e_ => (hk_.2.2.2.2.2.2.2.2.2.2) e_)))) (fun k_ hk_ => ⟨hk_.1.1, hk_.1.2.1, hk_.1.2.2.1, hk_.1.2.2.2.1, hk_.1.2.2.2.2.1, hk_.1.2.2.2.2.2.1, hk_.1.2.2.2.2.2.2.1, hk_.1.2.2.2.2.2.2.2.1, hk_.1.2.2.2.2.2.2.2.2.1, hk_.1.2.2.2.2.2.2.2.2.2.1, hk_.1.2.2.2.2.2.2.2.2.2.2⟩)); have n12_ := Aside0.mk (Kd.R_reok rfl hy0 (fun k_ e_ => HO311.out.1 k_ e_)); have n13_ := Aside0.mk (Kd.R_reok rfl hy1 (fun k_ e_ => HO314.out.1 k_ e_)); have n14_ := Aside0.mk (Kd.R_reok rfl hy2 (fun k_ e_ => HO317.out.1 k_ e_)); have n15_ := Aside0.mk (blk_kept (by (with_reducible repeat (first | refine blk_drewN ?_ _ | refine blk_drew ?_ | refine blk_alloc ?_ _)); exact BK318.out) hkp (fun hs_ => Or.elim hs_ (fun e_ => (fun e_ => (Kd.R_ne HO311.out BK318.out (by decide)) e_) e_) (fun e_ => Or.elim e_ (fun e_ => (fun e_ => (Kd.R_ne HO314.out BK318.out (by decide)) e_) e_) (fun e_ => (fun e_ => (Kd.R_ne HO317.out BK318.out (by decide)) e_) e_)))); have n16_ := Aside0.mk (hb); clear HO_280002; clear HO_280003; clear HO_280004; clear HO_293002; clear HO_293003; clear HO_293004; clear BK263; clear BK279; clear BK292; clear HO299; clear HO302; clear HO305; clear HO311; clear HO314; clear HO317; clear BK318; clear HB; have HO_280002 := n0_; have HO_280003 := n1_; have HO_280004 := n2_; have HO_293002 := n3_; have HO_293003 := n4_; have HO_293004 := n5_; have BK263 := n6_; have BK279 := n7_; have BK292 := n8_; have HO299 := n9_; have HO302 := n10_; have HO305 := n11_; have HO311 := n12_; have HO314 := n13_; have HO317 := n14_; have BK318 := n15_; have HB := n16_; clear n0_ n1_ n2_ n3_ n4_ n5_ n6_ n7_ n8_ n9_ n10_ n11_ n12_ n13_ n14_ n15_ n16_; (try clear hb); (try clear hkp); (try clear hy0); (try clear hy1); (try clear hy2)) | ((with_reducible refine gate_callee (f := 13) rfl ?_); refine goesL_ (some 163) rfl rfl Try.func13 (by kernel_rfl) rfl #[] rfl (by (try simp only [List.map_toArray, List.map_cons, List.map_nil]); first | done | rfl | (simp only [List.length_drop, List.length_take]; rfl)) ?_; (with_reducible refine (cutroomlaw08_awake.calls kj80  _ _ A101.out).mono ?_); rintro e w127 ⟨rfl, hb⟩; refine ⟨_, rfl, ?_⟩; have n0_ := Aside0.mk (Kd.R_below (by (with_reducible repeat (first | apply Kd.R_alloc | apply Kd.R_drewN | apply Kd.R_drew)); exact HO_280002.out) hb); have n1_ := Aside0.mk (Kd.R_below (by (with_reducible repeat (first | apply Kd.R_alloc | apply Kd.R_drewN | apply Kd.R_drew)); exact HO_280003.out) hb); have n2_ := Aside0.mk (Kd.R_below (by (with_reducible repeat (first | apply Kd.R_alloc | apply Kd.R_drewN | apply Kd.R_drew)); exact HO_280004.out) hb); have n3_ := Aside0.mk (Kd.R_below (by (with_reducible repeat (first | apply Kd.R_alloc | apply Kd.R_drewN | apply Kd.R_drew)); exact HO_293002.out) hb); have n4_ := Aside0.mk (Kd.R_below (by (with_reducible repeat (first | apply Kd.R_alloc | apply Kd.R_drewN | apply Kd.R_drew)); exact HO_293003.out) hb); have n5_ := Aside0.mk (Kd.R_below (by (with_reducible repeat (first | apply Kd.R_alloc | apply Kd.R_drewN | apply Kd.R_drew)); exact HO_293004.out) hb); have n6_ := Aside0.mk (Kd.R_below (by (with_reducible repeat (first | apply Kd.R_alloc | apply Kd.R_drewN | apply Kd.R_drew)); exact HO299.out) hb); have n7_ := Aside0.mk (Kd.R_below (by (with_reducible repeat (first | apply Kd.R_alloc | apply Kd.R_drewN | apply Kd.R_drew)); exact HO302.out) hb); have n8_ := Aside0.mk (Kd.R_below (by (with_reducible repeat (first | apply Kd.R_alloc | apply Kd.R_drewN | apply Kd.R_drew)); exact HO305.out) hb); have n9_ := Aside0.mk (Kd.R_below (by (with_reducible repeat (first | apply Kd.R_alloc | apply Kd.R_drewN | apply Kd.R_drew)); exact HO311.out) hb); have n10_ := Aside0.mk (Kd.R_below (by (with_reducible repeat (first | apply Kd.R_alloc | apply Kd.R_drewN | apply Kd.R_drew)); exact HO314.out) hb); have n11_ := Aside0.mk (Kd.R_below (by (with_reducible repeat (first | apply Kd.R_alloc | apply Kd.R_drewN | apply Kd.R_drew)); exact HO317.out) hb); have n12_ := Aside0.mk (blk_below (g := gb263) (o := .cells #[.int .i64 a0_0, .int .i64 a0_1, .slice A0_2 l0_2.length c0_2, .slice A0_3 l0_3.length c0_3, .slice A0_4 l0_4.length c0_4] 24 (0, 0)) (by (with_reducible repeat (first | refine blk_drewN ?_ _ | refine blk_drew ?_ | refine blk_alloc ?_ _)); exact BK263.out) hb); have n13_ := Aside0.mk (blk_below (g := gb279) (o := .cells #[.int .i64 t295, .int .i64 t296, .slice Ao111 t297.length co111, .slice Ao112 t300.length co112, .slice Ao113 t303.length co113] 24 (0, 0)) (by (with_reducible repeat (first | refine blk_drewN ?_ _ | refine blk_drew ?_ | refine blk_alloc ?_ _)); exact BK279.out) hb); have n14_ := Aside0.mk (blk_below (g := gb292) (o := .cells #[.int .i64 t280, .int .i64 t281, .slice Ao69 t282.length co69, .slice Ao70 t285.length co70, .slice Ao71 t288.length co71] 24 (0, 0)) (by (with_reducible repeat (first | refine blk_drewN ?_ _ | refine blk_drew ?_ | refine blk_alloc ?_ _)); exact BK292.out) hb); have n15_ := Aside0.mk (blk_below (g := gb318) (o := .cells #[.int .i64 t307, .int .i64 t308, .slice Ao120 t309.length co120, .slice Ao121 t312.length co121, .slice Ao122 t315.length co122] 24 (0, 0)) (by (with_reducible repeat (first | refine blk_drewN ?_ _ | refine blk_drew ?_ | refine blk_alloc ?_ _)); exact BK318.out) hb); have n16_ := Aside0.mk (below_step (by repeat (first | (with_reducible first | exact HB.out | apply below_alloc | apply pw_below_drewN | apply below_drew1 | refine below_set ?_ GE263.out | refine below_set ?_ GE279.out | refine below_set ?_ GE292.out | refine below_set ?_ GE318.out) | exact HB.out)) hb); clear HO_280002; clear HO_280003; clear HO_280004; clear HO_293002; clear HO_293003; clear HO_293004; clear HO299; clear HO302; clear HO305; clear HO311; clear HO314; clear HO317; clear BK263; clear BK279; clear BK292; clear BK318; clear HB; have HO_280002 := n0_; have HO_280003 := n1_; have HO_280004 := n2_; have HO_293002 := n3_; have HO_293003 := n4_; have HO_293004 := n5_; have HO299 := n6_; have HO302 := n7_; have HO305 := n8_; have HO311 := n9_; have HO314 := n10_; have HO317 := n11_; have BK263 := n12_; have BK279 := n13_; have BK292 := n14_; have BK318 := n15_; have HB := n16_; clear n0_ n1_ n2_ n3_ n4_ n5_ n6_ n7_ n8_ n9_ n10_ n11_ n12_ n13_ n14_ n15_ n16_; (try clear hb); (try clear hb2); (try clear hk); (try clear hi); have hcz128_0 : w127.cell? ⟨gb279, 0, none⟩ = some (.int .i64 t295) := (blk_cell BK279.out 0).trans rfl; have hcz128_1 : w127.cell? ⟨gb279, 1, none⟩ = some (.int .i64 t296) := (blk_cell BK279.out 1).trans rfl; have hcz128_2 : w127.cell? ⟨gb279, 2, none⟩ = some (.slice Ao111 t297.length co111) := (blk_cell BK279.out 2).trans rfl; have hcz128_3 : w127.cell? ⟨gb279, 3, none⟩ = some (.slice Ao112 t300.length co112) := (blk_cell BK279.out 3).trans rfl; have hcz128_4 : w127.cell? ⟨gb279, 4, none⟩ = some (.slice Ao113 t303.length co113) := (blk_cell BK279.out 4).trans rfl; have hfz128_0 := blk_frozen BK279.out 0; have hfz128_1 := blk_frozen BK279.out 1; have hfz128_2 := blk_frozen BK279.out 2; have hfz128_3 := blk_frozen BK279.out 3; have hfz128_4 := blk_frozen BK279.out 4; have hcz129_0 : w127.cell? ⟨gb318, 0, none⟩ = some (.int .i64 t307) := (blk_cell BK318.out 0).trans rfl; have hcz129_1 : w127.cell? ⟨gb318, 1, none⟩ = some (.int .i64 t308) := (blk_cell BK318.out 1).trans rfl; have hcz129_2 : w127.cell? ⟨gb318, 2, none⟩ = some (.slice Ao120 t309.length co120) := (blk_cell BK318.out 2).trans rfl; have hcz129_3 : w127.cell? ⟨gb318, 3, none⟩ = some (.slice Ao121 t312.length co121) := (blk_cell BK318.out 3).trans rfl; have hcz129_4 : w127.cell? ⟨gb318, 4, none⟩ = some (.slice Ao122 t315.length co122) := (blk_cell BK318.out 4).trans rfl; have hfz129_0 := blk_frozen BK318.out 0; have hfz129_1 := blk_frozen BK318.out 1; have hfz129_2 := blk_frozen BK318.out 2; have hfz129_3 := blk_frozen BK318.out 3; have hfz129_4 := blk_frozen BK318.out 4) | (go_at_call 14; refine calls_of_args (args' := #[.agg #[.int .i64 t295, .int .i64 t296, .slice Ao111 t297.length co111, .slice Ao112 t300.length co112, .slice Ao113 t303.length co113], .agg #[.int .i64 t307, .int .i64 t308, .slice Ao120 t319.length co120, .slice Ao121 t320.length co121, .slice Ao122 t321.length co122]]) (by first | (rw [show t319.length = t309.length from (Kd.R_reads' HO311.out).1.symm, show t320.length = t312.length from (Kd.R_reads' HO314.out).1.symm, show t321.length = t315.length from (Kd.R_reads' HO317.out).1.symm] <;> rfl) | rfl) ?_; (with_reducible refine (cutroomref07_Equal.calls t295 t296 _ _ t297 _ _ t300 _ _ t303 t307 t308 _ _ t319 _ _ t320 _ _ t321 t323 _ ?side1 ?side2 ?side3 ?side4 ?side5 ?side6 ?side7 ?side8 ?side9 ?side10 ?side11 ?side12 A104.out).mono ?_); (case side1 => repeat (first | exact (Kd.R_reads' HO299.out).2.2 | (with_reducible refine Kd.C_alloc ?_ _) | (with_reducible refine Kd.C_drewN ?_ _) | (with_reducible refine Kd.C_drew ?_))); (case side2 => exact (Kd.R_reads' HO299.out).2.1); (case side3 => repeat (first | exact (Kd.R_reads' HO302.out).2.2 | (with_reducible refine Kd.C_alloc ?_ _) | (with_reducible refine Kd.C_drewN ?_ _) | (with_reducible refine Kd.C_drew ?_))); (case side4 => exact (Kd.R_reads' HO302.out).2.1); (case side5 => repeat (first | exact (Kd.R_reads' HO305.out).2.2 | (with_reducible refine Kd.C_alloc ?_ _) | (with_reducible refine Kd.C_drewN ?_ _) | (with_reducible refine Kd.C_drew ?_))); (case side6 => exact (Kd.R_reads' HO305.out).2.1); (case side7 => repeat (first | exact (Kd.R_reads' HO311.out).2.2 | (with_reducible refine Kd.C_alloc ?_ _) | (with_reducible refine Kd.C_drewN ?_ _) | (with_reducible refine Kd.C_drew ?_))); (case side8 => rw [show t319.length = t309.length from (Kd.R_reads' HO311.out).1.symm]; exact (Kd.R_reads' HO311.out).2.1); (case side9 => repeat (first | exact (Kd.R_reads' HO314.out).2.2 | (with_reducible refine Kd.C_alloc ?_ _) | (with_reducible refine Kd.C_drewN ?_ _) | (with_reducible refine Kd.C_drew ?_))); (case side10 => rw [show t320.length = t312.length from (Kd.R_reads' HO314.out).1.symm]; exact (Kd.R_reads' HO314.out).2.1); (case side11 => repeat (first | exact (Kd.R_reads' HO317.out).2.2 | (with_reducible refine Kd.C_alloc ?_ _) | (with_reducible refine Kd.C_drewN ?_ _) | (with_reducible refine Kd.C_drew ?_))); (case side12 => rw [show t321.length = t315.length from (Kd.R_reads' HO317.out).1.symm]; exact (Kd.R_reads' HO317.out).2.1); rintro e w130 ⟨rfl, hb⟩; have n0_ := Aside0.mk (Kd.R_below (by (with_reducible repeat (first | apply Kd.R_alloc | apply Kd.R_drewN | apply Kd.R_drew)); exact HO_280002.out) hb); have n1_ := Aside0.mk (Kd.R_below (by (with_reducible repeat (first | apply Kd.R_alloc | apply Kd.R_drewN | apply Kd.R_drew)); exact HO_280003.out) hb); have n2_ := Aside0.mk (Kd.R_below (by (with_reducible repeat (first | apply Kd.R_alloc | apply Kd.R_drewN | apply Kd.R_drew)); exact HO_280004.out) hb); have n3_ := Aside0.mk (Kd.R_below (by (with_reducible repeat (first | apply Kd.R_alloc | apply Kd.R_drewN | apply Kd.R_drew)); exact HO_293002.out) hb); have n4_ := Aside0.mk (Kd.R_below (by (with_reducible repeat (first | apply Kd.R_alloc | apply Kd.R_drewN | apply Kd.R_drew)); exact HO_293003.out) hb); have n5_ := Aside0.mk (Kd.R_below (by (with_reducible repeat (first | apply Kd.R_alloc | apply Kd.R_drewN | apply Kd.R_drew)); exact HO_293004.out) hb); have n6_ := Aside0.mk (Kd.R_below (by (with_reducible repeat (first | apply Kd.R_alloc | apply Kd.R_drewN | apply Kd.R_drew)); exact HO299.out) hb); have n7_ := Aside0.mk (Kd.R_below (by (with_reducible repeat (first | apply Kd.R_alloc | apply Kd.R_drewN | apply Kd.R_drew)); exact HO302.out) hb); have n8_ := Aside0.mk (Kd.R_below (by (with_reducible repeat (first | apply Kd.R_alloc | apply Kd.R_drewN | apply Kd.R_drew)); exact HO305.out) hb); have n9_ := Aside0.mk (Kd.R_below (by (with_reducible repeat (first | apply Kd.R_alloc | apply Kd.R_drewN | apply Kd.R_drew)); exact HO311.out) hb); have n10_ := Aside0.mk (Kd.R_below (by (with_reducible repeat (first | apply Kd.R_alloc | apply Kd.R_drewN | apply Kd.R_drew)); exact HO314.out) hb); have n11_ := Aside0.mk (Kd.R_below (by (with_reducible repeat (first | apply Kd.R_alloc | apply Kd.R_drewN | apply Kd.R_drew)); exact HO317.out) hb); have n12_ := Aside0.mk (blk_below (g := gb263) (o := .cells #[.int .i64 a0_0, .int .i64 a0_1, .slice A0_2 l0_2.length c0_2, .slice A0_3 l0_3.length c0_3, .slice A0_4 l0_4.length c0_4] 24 (0, 0)) (by (with_reducible repeat (first | refine blk_drewN ?_ _ | refine blk_drew ?_ | refine blk_alloc ?_ _)); exact BK263.out) hb); have n13_ := Aside0.mk (blk_below (g := gb279) (o := .cells #[.int .i64 t295, .int .i64 t296, .slice Ao111 t297.length co111, .slice Ao112 t300.length co112, .slice Ao113 t303.length co113] 24 (0, 0)) (by (with_reducible repeat (first | refine blk_drewN ?_ _ | refine blk_drew ?_ | refine blk_alloc ?_ _)); exact BK279.out) hb); have n14_ := Aside0.mk (blk_below (g := gb292) (o := .cells #[.int .i64 t280, .int .i64 t281, .slice Ao69 t282.length co69, .slice Ao70 t285.length co70, .slice Ao71 t288.length co71] 24 (0, 0)) (by (with_reducible repeat (first | refine blk_drewN ?_ _ | refine blk_drew ?_ | refine blk_alloc ?_ _)); exact BK292.out) hb); have n15_ := Aside0.mk (blk_below (g := gb318) (o := .cells #[.int .i64 t307, .int .i64 t308, .slice Ao120 t309.length co120, .slice Ao121 t312.length co121, .slice Ao122 t315.length co122] 24 (0, 0)) (by (with_reducible repeat (first | refine blk_drewN ?_ _ | refine blk_drew ?_ | refine blk_alloc ?_ _)); exact BK318.out) hb); have n16_ := Aside0.mk (below_step (by repeat (first | (with_reducible first | exact HB.out | apply below_alloc | apply pw_below_drewN | apply below_drew1 | refine below_set ?_ GE263.out | refine below_set ?_ GE279.out | refine below_set ?_ GE292.out | refine below_set ?_ GE318.out) | exact HB.out)) hb); clear HO_280002; clear HO_280003; clear HO_280004; clear HO_293002; clear HO_293003; clear HO_293004; clear HO299; clear HO302; clear HO305; clear HO311; clear HO314; clear HO317; clear BK263; clear BK279; clear BK292; clear BK318; clear HB; have HO_280002 := n0_; have HO_280003 := n1_; have HO_280004 := n2_; have HO_293002 := n3_; have HO_293003 := n4_; have HO_293004 := n5_; have HO299 := n6_; have HO302 := n7_; have HO305 := n8_; have HO311 := n9_; have HO314 := n10_; have HO317 := n11_; have BK263 := n12_; have BK279 := n13_; have BK292 := n14_; have BK318 := n15_; have HB := n16_; clear n0_ n1_ n2_ n3_ n4_ n5_ n6_ n7_ n8_ n9_ n10_ n11_ n12_ n13_ n14_ n15_ n16_; (try clear hb); (try clear hb2); (try clear hk); (try clear hi)))
                    go_ret
                    exact ⟨by first | rfl | (simp [errW_none, errW_some] <;> rfl) | (simp [*, errW_none, errW_some] <;> rfl), by repeat (first | (with_reducible first | exact HB.out | apply below_alloc | apply pw_below_drewN | apply below_drew1 | refine below_set ?_ GE263.out | refine below_set ?_ GE279.out | refine below_set ?_ GE292.out | refine below_set ?_ GE318.out) | exact HB.out)⟩

end Go.Proofs.Ytnihjbcdlgfklaa.PMotionStill
