-- Written by a program of this session, after the form of the kit's print; each text is checked by Lean alone.
import Derived.Test.YtnihjbcdlgfklaaPMotionMirrorx0
import Derived.Test.YtnihjbcdlgfklaaPMotionMirrorx1
import Derived.Test.YtnihjbcdlgfklaaPMotionMirrorx5
import Derived.Test.YtnihjbcdlgfklaaPMotionMirrorx7
import Derived.Test.YtnihjbcdlgfklaaPMotionMirrorx8
namespace Go.Proofs.Ytnihjbcdlgfklaa.PMotionMirror
open Go.RowKit Go.Proofs.YtnihjbcdlgfklaaW.PrintWords Go.Proofs.YtnihjbcdlgfklaaW.PrintLast Go.Proofs.YtnihjbcdlgfklaaW.PrintMore
attribute [local go_sem] max2_int min2_int max_two min_two max_three min_three max_four min_four   -- for this text's walks alone
set_option linter.unusedVariables false
set_option linter.unusedSimpArgs false

/-! ### cutroomlaw08_MotionMirror: function 7 -/
mutual
def cutroomlaw08_MotionMirror.l0 : Nat → Int → Int → Int → List Int → List Int → List Int → Int → Int → Int → Int → Int → Int → Int → Int → List Int → List Int → List Int → Int → Int → List Int → List Int → List Int → Option (Bool)
  | 0, _, _, _, _, _, _, _, _, _, _, _, _, _, _, _, _, _, _, _, _, _, _ => none
  | k + 1, x8, x254000, x254001, x254002, x254003, x254004, x255000, x255001, x255002, x255003, x255004, x255005, x269000, x269001, x269002, x269003, x269004, x282000, x282001, x282002, x282003, x282004 => if x8 < (x254002.length : Int) then (if x254000 = 0 then (none) else (if 0 ≤ x8 then (if 0 ≤ (wrap64 ((wrap64 ((wrap64 ((wrap64 ((wrap64 (Int.tdiv x8 x254000)) * x254000)) + x254000)) - 1)) - (Int.tmod x8 x254000))) then (if (wrap64 ((wrap64 ((wrap64 ((wrap64 ((wrap64 (Int.tdiv x8 x254000)) * x254000)) + x254000)) - 1)) - (Int.tmod x8 x254000))) < (x282002.length : Int) then (cutroomlaw08_MotionMirror.l0 k (wrap64 (x8 + 1)) x254000 x254001 x254002 x254003 x254004 x255000 x255001 x255002 x255003 x255004 x255005 x269000 x269001 x269002 x269003 x269004 x282000 x282001 (x282002.set ((wrap64 ((wrap64 ((wrap64 ((wrap64 ((wrap64 (Int.tdiv x8 x254000)) * x254000)) + x254000)) - 1)) - (Int.tmod x8 x254000))) : Int).toNat (rd x254002 x8)) x282003 x282004) else (none)) else (none)) else (none))) else ((motion_Predict.f k x282000 x282001 x282002 x282003 x282004 (wrap64 ((wrap64 (x254000 - x255002)) - x255000)) x255001 x255002 x255003 (wrap64 (-x255004)) x255005).bind fun bt284 => (if bt284.2.2.2.2.2 = 0 then (if (bt284.2.2.1.length : Int) = (x269002.length : Int) then (cutroomlaw08_MotionMirror.j1 k ((x269002.length : Int) != (wrap64 (x255002 * x255003))) x255000 x255001 x255002 x255003 x255004 x255005 x269000 x269001 x269002 x269003 x269004 bt284.1 bt284.2.1 bt284.2.2.1 bt284.2.2.2.1 bt284.2.2.2.2.1) else (cutroomlaw08_MotionMirror.j1 k true x255000 x255001 x255002 x255003 x255004 x255005 x269000 x269001 x269002 x269003 x269004 bt284.1 bt284.2.1 bt284.2.2.1 bt284.2.2.2.1 bt284.2.2.2.2.1)) else (cutroomlaw08_MotionMirror.j1 k true x255000 x255001 x255002 x255003 x255004 x255005 x269000 x269001 x269002 x269003 x269004 bt284.1 bt284.2.1 bt284.2.2.1 bt284.2.2.2.1 bt284.2.2.2.2.1)))
def cutroomlaw08_MotionMirror.j1 : Nat → Bool → Int → Int → Int → Int → Int → Int → Int → Int → List Int → List Int → List Int → Int → Int → List Int → List Int → List Int → Option (Bool)
  | 0, _, _, _, _, _, _, _, _, _, _, _, _, _, _, _, _, _ => none
  | k + 1, x114, x255000, x255001, x255002, x255003, x255004, x255005, x269000, x269001, x269002, x269003, x269004, x297000, x297001, x297002, x297003, x297004 => if x114 = true then (some false) else (cutroomlaw08_MotionMirror.l1 k 0 x255000 x255001 x255002 x255003 x255004 x255005 x269000 x269001 x269002 x269003 x269004 x297000 x297001 x297002 x297003 x297004)
def cutroomlaw08_MotionMirror.l1 : Nat → Int → Int → Int → Int → Int → Int → Int → Int → Int → List Int → List Int → List Int → Int → Int → List Int → List Int → List Int → Option (Bool)
  | 0, _, _, _, _, _, _, _, _, _, _, _, _, _, _, _, _, _ => none
  | k + 1, x11, x255000, x255001, x255002, x255003, x255004, x255005, x269000, x269001, x269002, x269003, x269004, x297000, x297001, x297002, x297003, x297004 => if x11 < (x269002.length : Int) then (if 0 ≤ x11 then (if x255002 = 0 then (none) else (if 0 ≤ (wrap64 ((wrap64 ((wrap64 ((wrap64 ((wrap64 (Int.tdiv x11 x255002)) * x255002)) + x255002)) - 1)) - (Int.tmod x11 x255002))) then (if (wrap64 ((wrap64 ((wrap64 ((wrap64 ((wrap64 (Int.tdiv x11 x255002)) * x255002)) + x255002)) - 1)) - (Int.tmod x11 x255002))) < (x297002.length : Int) then (if (rd x269002 x11) = (rd x297002 (wrap64 ((wrap64 ((wrap64 ((wrap64 ((wrap64 (Int.tdiv x11 x255002)) * x255002)) + x255002)) - 1)) - (Int.tmod x11 x255002)))) then (cutroomlaw08_MotionMirror.l1 k (wrap64 (x11 + 1)) x255000 x255001 x255002 x255003 x255004 x255005 x269000 x269001 x269002 x269003 x269004 x297000 x297001 x297002 x297003 x297004) else (some false)) else (none)) else (none))) else (none)) else ((cutroomlaw08_awake.f k).bind fun t299 => (some t299))
end
def cutroomlaw08_MotionMirror.f (k : Nat) (a0_0 : Int) (a0_1 : Int) (l0_2 : List Int) (l0_3 : List Int) (l0_4 : List Int) (a1_0 : Int) (a1_1 : Int) (a1_2 : Int) (a1_3 : Int) (a1_4 : Int) (a1_5 : Int) : Option (Bool) := (cutroomlaw08_light.f a0_0 a0_1 l0_2 l0_3 l0_4).bind fun t255 => (if t255 = true then ((motion_Predict.f k a0_0 a0_1 l0_2 l0_3 l0_4 a1_0 a1_1 a1_2 a1_3 a1_4 a1_5).bind fun bt256 => (if bt256.2.2.2.2.2 = 0 then ((cutroomref07_Copy.f a0_0 a0_1 l0_2 l0_3 l0_4).bind fun bt270 => (cutroomlaw08_MotionMirror.l0 k 0 a0_0 a0_1 l0_2 l0_3 l0_4 a1_0 a1_1 a1_2 a1_3 a1_4 a1_5 bt256.1 bt256.2.1 bt256.2.2.1 bt256.2.2.2.1 bt256.2.2.2.2.1 bt270.1 bt270.2.1 bt270.2.2.1 bt270.2.2.2.1 bt270.2.2.2.2)) else ((cutroomlaw08_awake.f k).bind fun t269 => (some t269)))) else (some true))
theorem cutroomlaw08_MotionMirror.mono_l : ∀ k, (∀ y0 y1 y2 y3 y4 y5 y6 y7 y8 y9 y10 y11 y12 y13 y14 y15 y16 y17 y18 y19 y20 y21, LeO (cutroomlaw08_MotionMirror.l0 k y0 y1 y2 y3 y4 y5 y6 y7 y8 y9 y10 y11 y12 y13 y14 y15 y16 y17 y18 y19 y20 y21) (cutroomlaw08_MotionMirror.l0 (k + 1) y0 y1 y2 y3 y4 y5 y6 y7 y8 y9 y10 y11 y12 y13 y14 y15 y16 y17 y18 y19 y20 y21)) ∧ (∀ y0 y1 y2 y3 y4 y5 y6 y7 y8 y9 y10 y11 y12 y13 y14 y15 y16, LeO (cutroomlaw08_MotionMirror.j1 k y0 y1 y2 y3 y4 y5 y6 y7 y8 y9 y10 y11 y12 y13 y14 y15 y16) (cutroomlaw08_MotionMirror.j1 (k + 1) y0 y1 y2 y3 y4 y5 y6 y7 y8 y9 y10 y11 y12 y13 y14 y15 y16)) ∧ (∀ y0 y1 y2 y3 y4 y5 y6 y7 y8 y9 y10 y11 y12 y13 y14 y15 y16, LeO (cutroomlaw08_MotionMirror.l1 k y0 y1 y2 y3 y4 y5 y6 y7 y8 y9 y10 y11 y12 y13 y14 y15 y16) (cutroomlaw08_MotionMirror.l1 (k + 1) y0 y1 y2 y3 y4 y5 y6 y7 y8 y9 y10 y11 y12 y13 y14 y15 y16))
 | 0 => ⟨fun _ _ _ _ _ _ _ _ _ _ _ _ _ _ _ _ _ _ _ _ _ _ r h => by simp [cutroomlaw08_MotionMirror.l0] at h, fun _ _ _ _ _ _ _ _ _ _ _ _ _ _ _ _ _ r h => by simp [cutroomlaw08_MotionMirror.j1] at h, fun _ _ _ _ _ _ _ _ _ _ _ _ _ _ _ _ _ r h => by simp [cutroomlaw08_MotionMirror.l1] at h⟩
 | k + 1 => by
  obtain ⟨ih0, ih1, ih2⟩ := cutroomlaw08_MotionMirror.mono_l k
  refine ⟨?_, ?_, ?_⟩
  ·
   intro y0 y1 y2 y3 y4 y5 y6 y7 y8 y9 y10 y11 y12 y13 y14 y15 y16 y17 y18 y19 y20 y21
   unfold cutroomlaw08_MotionMirror.l0
   repeat' first
   | (with_reducible exact ih0 _ _ _ _ _ _ _ _ _ _ _ _ _ _ _ _ _ _ _ _ _ _)
   | (with_reducible exact ih1 _ _ _ _ _ _ _ _ _ _ _ _ _ _ _ _ _)
   | (with_reducible exact ih2 _ _ _ _ _ _ _ _ _ _ _ _ _ _ _ _ _)
   | (with_reducible exact cutroomlaw08_awake.mono _)
   | (with_reducible exact motion_Predict.mono _ _ _ _ _ _ _ _ _ _ _ _)
   | (with_reducible exact LeO.refl _)
   | (with_reducible exact LeO.none _)
   | (with_reducible refine LeO.ite ?_ ?_)
   | (with_reducible refine LeO.bind ?_ (fun _ => ?_))
   | exact ih0 _ _ _ _ _ _ _ _ _ _ _ _ _ _ _ _ _ _ _ _ _ _
   | exact ih1 _ _ _ _ _ _ _ _ _ _ _ _ _ _ _ _ _
   | exact ih2 _ _ _ _ _ _ _ _ _ _ _ _ _ _ _ _ _
   | exact cutroomlaw08_awake.mono _
   | exact motion_Predict.mono _ _ _ _ _ _ _ _ _ _ _ _
   | exact LeO.none _
   | refine LeO.ite ?_ ?_
   | refine LeO.bind ?_ (fun _ => ?_)
  ·
   intro y0 y1 y2 y3 y4 y5 y6 y7 y8 y9 y10 y11 y12 y13 y14 y15 y16
   unfold cutroomlaw08_MotionMirror.j1
   repeat' first
   | (with_reducible exact ih0 _ _ _ _ _ _ _ _ _ _ _ _ _ _ _ _ _ _ _ _ _ _)
   | (with_reducible exact ih1 _ _ _ _ _ _ _ _ _ _ _ _ _ _ _ _ _)
   | (with_reducible exact ih2 _ _ _ _ _ _ _ _ _ _ _ _ _ _ _ _ _)
   | (with_reducible exact cutroomlaw08_awake.mono _)
   | (with_reducible exact motion_Predict.mono _ _ _ _ _ _ _ _ _ _ _ _)
   | (with_reducible exact LeO.refl _)
   | (with_reducible exact LeO.none _)
   | (with_reducible refine LeO.ite ?_ ?_)
   | (with_reducible refine LeO.bind ?_ (fun _ => ?_))
   | exact ih0 _ _ _ _ _ _ _ _ _ _ _ _ _ _ _ _ _ _ _ _ _ _
   | exact ih1 _ _ _ _ _ _ _ _ _ _ _ _ _ _ _ _ _
   | exact ih2 _ _ _ _ _ _ _ _ _ _ _ _ _ _ _ _ _
   | exact cutroomlaw08_awake.mono _
   | exact motion_Predict.mono _ _ _ _ _ _ _ _ _ _ _ _
   | exact LeO.none _
   | refine LeO.ite ?_ ?_
   | refine LeO.bind ?_ (fun _ => ?_)
  ·
   intro y0 y1 y2 y3 y4 y5 y6 y7 y8 y9 y10 y11 y12 y13 y14 y15 y16
   unfold cutroomlaw08_MotionMirror.l1
   repeat' first
   | (with_reducible exact ih0 _ _ _ _ _ _ _ _ _ _ _ _ _ _ _ _ _ _ _ _ _ _)
   | (with_reducible exact ih1 _ _ _ _ _ _ _ _ _ _ _ _ _ _ _ _ _)
   | (with_reducible exact ih2 _ _ _ _ _ _ _ _ _ _ _ _ _ _ _ _ _)
   | (with_reducible exact cutroomlaw08_awake.mono _)
   | (with_reducible exact motion_Predict.mono _ _ _ _ _ _ _ _ _ _ _ _)
   | (with_reducible exact LeO.refl _)
   | (with_reducible exact LeO.none _)
   | (with_reducible refine LeO.ite ?_ ?_)
   | (with_reducible refine LeO.bind ?_ (fun _ => ?_))
   | exact ih0 _ _ _ _ _ _ _ _ _ _ _ _ _ _ _ _ _ _ _ _ _ _
   | exact ih1 _ _ _ _ _ _ _ _ _ _ _ _ _ _ _ _ _
   | exact ih2 _ _ _ _ _ _ _ _ _ _ _ _ _ _ _ _ _
   | exact cutroomlaw08_awake.mono _
   | exact motion_Predict.mono _ _ _ _ _ _ _ _ _ _ _ _
   | exact LeO.none _
   | refine LeO.ite ?_ ?_
   | refine LeO.bind ?_ (fun _ => ?_)
theorem cutroomlaw08_MotionMirror.mono : ∀ a0 a1 a2 a3 a4 a5 a6 a7 a8 a9 a10 k, LeO (cutroomlaw08_MotionMirror.f k a0 a1 a2 a3 a4 a5 a6 a7 a8 a9 a10) (cutroomlaw08_MotionMirror.f (k + 1) a0 a1 a2 a3 a4 a5 a6 a7 a8 a9 a10) := by
 intro a0 a1 a2 a3 a4 a5 a6 a7 a8 a9 a10 k
 obtain ⟨ih0, ih1, ih2⟩ := cutroomlaw08_MotionMirror.mono_l k
 unfold cutroomlaw08_MotionMirror.f
 repeat' first
   | (with_reducible exact ih0 _ _ _ _ _ _ _ _ _ _ _ _ _ _ _ _ _ _ _ _ _ _)
   | (with_reducible exact ih1 _ _ _ _ _ _ _ _ _ _ _ _ _ _ _ _ _)
   | (with_reducible exact ih2 _ _ _ _ _ _ _ _ _ _ _ _ _ _ _ _ _)
   | (with_reducible exact cutroomlaw08_awake.mono _)
   | (with_reducible exact motion_Predict.mono _ _ _ _ _ _ _ _ _ _ _ _)
   | (with_reducible exact LeO.refl _)
   | (with_reducible exact LeO.none _)
   | (with_reducible refine LeO.ite ?_ ?_)
   | (with_reducible refine LeO.bind ?_ (fun _ => ?_))
   | exact ih0 _ _ _ _ _ _ _ _ _ _ _ _ _ _ _ _ _ _ _ _ _ _
   | exact ih1 _ _ _ _ _ _ _ _ _ _ _ _ _ _ _ _ _
   | exact ih2 _ _ _ _ _ _ _ _ _ _ _ _ _ _ _ _ _
   | exact cutroomlaw08_awake.mono _
   | exact motion_Predict.mono _ _ _ _ _ _ _ _ _ _ _ _
   | exact LeO.none _
   | refine LeO.ite ?_ ?_
   | refine LeO.bind ?_ (fun _ => ?_)
def cutroomlaw08_MotionMirror.T10 : Bool × List (List Nat × List Nat) := (true, [([], []), ([0], [0]), ([], []), ([], []), ([3], [3]), ([2, 4], [2, 4]), ([], []), ([6], [6]), ([5, 7], [5, 7]), ([], []), ([9], [9]), ([8, 10], [8, 10]), ([11], [11]), ([], []), ([], []), ([14], [14]), ([13, 15], [13, 15]), ([12, 16], [12, 16]), ([], []), ([18], [18]), ([], []), ([19, 20], [19, 20]), ([21], [21]), ([1, 17, 0, 1, 2, 3, 4, 5, 6, 7, 8, 9, 10, 11, 12, 13, 14, 15, 16, 17, 18, 19, 20, 21, 22], [1, 17]), ([23, 22, 0, 1, 2, 3, 4, 5, 6, 7, 8, 9, 10, 11, 12, 13, 14, 15, 16, 17, 18, 19, 20, 21, 22], [22, 23])])
def cutroomlaw08_MotionMirror.B10 : List Nat := [0, 1, 0, 0, 8, 28, 0, 64, 252, 0, 512, 2044, 4092, 0, 0, 16384, 57344, 131068, 0, 262144, 0, 1835008, 3932160, 8388607, 16777215]
theorem cutroomlaw08_MotionMirror.tab10 : rtab .any (opsOf Try.f7 10) = cutroomlaw08_MotionMirror.T10 := by kernel_rfl
theorem cutroomlaw08_MotionMirror.bits10 : waitsOk cutroomlaw08_MotionMirror.T10.2 cutroomlaw08_MotionMirror.B10 = true := by kernel_rfl
def cutroomlaw08_MotionMirror.T17 : Bool × List (List Nat × List Nat) := (true, [([], []), ([0], [0]), ([], []), ([1, 2], [1, 2]), ([3], [3]), ([], []), ([5], [5]), ([], []), ([], []), ([8], [8]), ([7, 9], [7, 9]), ([], []), ([11], [11]), ([10, 12], [10, 12]), ([], []), ([14], [14]), ([13, 15], [13, 15]), ([16], [16]), ([], []), ([], []), ([19], [19]), ([18, 20], [18, 20]), ([17, 21], [17, 21]), ([6, 22], [6, 22]), ([23], [23]), ([4, 24], [4, 24])])
def cutroomlaw08_MotionMirror.B17 : List Nat := [0, 1, 0, 7, 15, 0, 32, 0, 0, 256, 896, 0, 2048, 8064, 0, 16384, 65408, 130944, 0, 0, 524288, 1835008, 4194176, 8388576, 16777184, 33554431]
theorem cutroomlaw08_MotionMirror.tab17 : rtab .any (opsOf Try.f7 17) = cutroomlaw08_MotionMirror.T17 := by kernel_rfl
theorem cutroomlaw08_MotionMirror.bits17 : waitsOk cutroomlaw08_MotionMirror.T17.2 cutroomlaw08_MotionMirror.B17 = true := by kernel_rfl
set_option maxHeartbeats 8000000 in
set_option maxRecDepth 100000 in
theorem cutroomlaw08_MotionMirror.calls (k : Nat) (a0_0 : Int) (a0_1 : Int) (A0_2 : Option Addr) (c0_2 : Nat) (l0_2 : List Int) (A0_3 : Option Addr) (c0_3 : Nat) (l0_3 : List Int) (A0_4 : Option Addr) (c0_4 : Nat) (l0_4 : List Int) (a1_0 : Int) (a1_1 : Int) (a1_2 : Int) (a1_3 : Int) (a1_4 : Int) (a1_5 : Int) (r : Bool) (w : World) (hr0_2 : Kd.C (Kd.int .u8) w A0_2 l0_2.length l0_2) (hc0_2 : l0_2.length ≤ c0_2) (hr0_3 : Kd.C (Kd.int .u8) w A0_3 l0_3.length l0_3) (hc0_3 : l0_3.length ≤ c0_3) (hr0_4 : Kd.C (Kd.int .u8) w A0_4 l0_4.length l0_4) (hc0_4 : l0_4.length ≤ c0_4) (h : cutroomlaw08_MotionMirror.f k a0_0 a0_1 l0_2 l0_3 l0_4 a1_0 a1_1 a1_2 a1_3 a1_4 a1_5 = some r) :
  Calls Try.prog 7 #[.agg #[.int .i64 a0_0, .int .i64 a0_1, .slice A0_2 l0_2.length c0_2, .slice A0_3 l0_3.length c0_3, .slice A0_4 l0_4.length c0_4], .agg #[.int .i64 a1_0, .int .i64 a1_1, .int .i64 a1_2, .int .i64 a1_3, .int .i64 a1_4, .int .i64 a1_5]] w fun e w' => e = .returned (.bool r) ∧ Below w.heap.size w w' := by
 have hu24 := Try.underlying24
 have hu34 := Try.underlying34
 have hu32 := Try.underlying32
 have HR0_2 := Aside0.mk hr0_2
 have HC0_2 := Aside0.mk hc0_2
 clear hr0_2 hc0_2
 have HR0_3 := Aside0.mk hr0_3
 have HC0_3 := Aside0.mk hc0_3
 clear hr0_3 hc0_3
 have HR0_4 := Aside0.mk hr0_4
 have HC0_4 := Aside0.mk hc0_4
 clear hr0_4 hc0_4
 have HB := Aside0.mk (Below.refl w.heap.size w)
 have H : ((cutroomlaw08_light.f a0_0 a0_1 l0_2 l0_3 l0_4).bind fun t255 => (if t255 = true then ((motion_Predict.f k a0_0 a0_1 l0_2 l0_3 l0_4 a1_0 a1_1 a1_2 a1_3 a1_4 a1_5).bind fun bt256 => (if bt256.2.2.2.2.2 = 0 then ((cutroomref07_Copy.f a0_0 a0_1 l0_2 l0_3 l0_4).bind fun bt270 => (cutroomlaw08_MotionMirror.l0 k 0 a0_0 a0_1 l0_2 l0_3 l0_4 a1_0 a1_1 a1_2 a1_3 a1_4 a1_5 bt256.1 bt256.2.1 bt256.2.2.1 bt256.2.2.2.1 bt256.2.2.2.2.1 bt270.1 bt270.2.1 bt270.2.2.1 bt270.2.2.2.1 bt270.2.2.2.2)) else ((cutroomlaw08_awake.f k).bind fun t269 => (some t269)))) else (some true))) = some r := h
 clear h
 replace H := Option.bind_eq_some_iff.mp H
 obtain ⟨t255, A30, H⟩ := H
 replace H : (if t255 = true then ((motion_Predict.f k a0_0 a0_1 l0_2 l0_3 l0_4 a1_0 a1_1 a1_2 a1_3 a1_4 a1_5).bind fun bt256 => (if bt256.2.2.2.2.2 = 0 then ((cutroomref07_Copy.f a0_0 a0_1 l0_2 l0_3 l0_4).bind fun bt270 => (cutroomlaw08_MotionMirror.l0 k 0 a0_0 a0_1 l0_2 l0_3 l0_4 a1_0 a1_1 a1_2 a1_3 a1_4 a1_5 bt256.1 bt256.2.1 bt256.2.2.1 bt256.2.2.2.1 bt256.2.2.2.2.1 bt270.1 bt270.2.1 bt270.2.2.1 bt270.2.2.2.1 bt270.2.2.2.2)) else ((cutroomlaw08_awake.f k).bind fun t269 => (some t269)))) else (some true)) = some r := H
 have A3 := Aside0.mk A30
 clear A30
 by_cases c4 : t255 = true
 ·
  subst c4
  have H1 : ((motion_Predict.f k a0_0 a0_1 l0_2 l0_3 l0_4 a1_0 a1_1 a1_2 a1_3 a1_4 a1_5).bind fun bt256 => (if bt256.2.2.2.2.2 = 0 then ((cutroomref07_Copy.f a0_0 a0_1 l0_2 l0_3 l0_4).bind fun bt270 => (cutroomlaw08_MotionMirror.l0 k 0 a0_0 a0_1 l0_2 l0_3 l0_4 a1_0 a1_1 a1_2 a1_3 a1_4 a1_5 bt256.1 bt256.2.1 bt256.2.2.1 bt256.2.2.2.1 bt256.2.2.2.2.1 bt270.1 bt270.2.1 bt270.2.2.1 bt270.2.2.2.1 bt270.2.2.2.2)) else ((cutroomlaw08_awake.f k).bind fun t269 => (some t269)))) = some r := by rw [if_pos rfl] at H; exact H
  clear H
  have H := H1
  clear H1
  replace H := Option.bind_eq_some_iff.mp H
  obtain ⟨⟨t256, t257, t258, t261, t264, t267⟩, A50, H⟩ := H
  replace H : (if t267 = 0 then ((cutroomref07_Copy.f a0_0 a0_1 l0_2 l0_3 l0_4).bind fun bt270 => (cutroomlaw08_MotionMirror.l0 k 0 a0_0 a0_1 l0_2 l0_3 l0_4 a1_0 a1_1 a1_2 a1_3 a1_4 a1_5 t256 t257 t258 t261 t264 bt270.1 bt270.2.1 bt270.2.2.1 bt270.2.2.2.1 bt270.2.2.2.2)) else ((cutroomlaw08_awake.f k).bind fun t269 => (some t269))) = some r := H
  have A5 := Aside0.mk A50
  clear A50
  by_cases c6 : t267 = 0
  ·
   rw [if_pos c6] at H
   have c6b0 : (t267 == 0) = true := beq_iff_eq.mpr c6
   have c6b1 : (t267 != 0) = false := bne_eq_false_iff_eq.mpr c6
   clear c6
   replace H := Option.bind_eq_some_iff.mp H
   obtain ⟨⟨t270, t271, t272, t275, t278⟩, A70, H⟩ := H
   replace H : (cutroomlaw08_MotionMirror.l0 k 0 a0_0 a0_1 l0_2 l0_3 l0_4 a1_0 a1_1 a1_2 a1_3 a1_4 a1_5 t256 t257 t258 t261 t264 t270 t271 t272 t275 t278) = some r := H
   have A7 := Aside0.mk A70
   clear A70
   have H' := Aside0.mk H
   clear H
   go_enter Try.func7, Try.ntmps7
   go_wp2_with (first | ((with_reducible refine gate_dst (N := 2) rfl ?_); (try (refine gate_guard (by rfl) ?_; dsimp only)); refine box_event ?hg (N := 2) ?hd (cs := #[.int .i64 a0_0, .int .i64 a0_1, .slice A0_2 l0_2.length c0_2, .slice A0_3 l0_3.length c0_3, .slice A0_4 l0_4.length c0_4]) (t := 24) ?hr ?_; (case hd => rfl); (case hg => rfl); (case hr => first | (go_simp; done) | (go_simp; rfl)); intro gb253 hg w8 hbox hb; have n0_ := Aside0.mk (below_step (by repeat (first | (with_reducible first | exact HB.out | apply below_alloc | apply pw_below_drewN | apply below_drew1) | exact HB.out)) hb); have n1_ := Aside0.mk (hbox); have n2_ := Aside0.mk ((by rw [hg]; exact (below_size (by repeat (first | (with_reducible first | exact HB.out | apply below_alloc | apply pw_below_drewN | apply below_drew1) | exact HB.out))) : w.heap.size ≤ gb253)); have n3_ := Aside0.mk ((by rw [hg]; exact (below_size (by repeat (first | (with_reducible first | exact HB.out | apply below_alloc | apply pw_below_drewN | apply below_drew1) | exact HB.out))) : w.heap.size ≤ gb253)); clear HB; have HB := n0_; have BK253 := n1_; have GW253 := n2_; have GE253 := n3_; clear n0_ n1_ n2_ n3_; clear hb hbox hg) | ((with_reducible refine gate_dst (N := 3) rfl ?_); (try (refine gate_guard (by rfl) ?_; dsimp only)); refine box_event ?hg (N := 3) ?hd (cs := #[.int .i64 a1_0, .int .i64 a1_1, .int .i64 a1_2, .int .i64 a1_3, .int .i64 a1_4, .int .i64 a1_5]) (t := 34) ?hr ?_; (case hd => rfl); (case hg => rfl); (case hr => first | (go_simp; done) | (go_simp; rfl)); intro gb254 hg w9 hbox hb; have n0_ := Aside0.mk (blk_below (g := gb253) (o := .cells #[.int .i64 a0_0, .int .i64 a0_1, .slice A0_2 l0_2.length c0_2, .slice A0_3 l0_3.length c0_3, .slice A0_4 l0_4.length c0_4] 24 (0, 0)) (by (with_reducible repeat (first | refine blk_drewN ?_ _ | refine blk_drew ?_ | refine blk_alloc ?_ _)); exact BK253.out) hb); have n1_ := Aside0.mk (below_step (by repeat (first | (with_reducible first | exact HB.out | apply below_alloc | apply pw_below_drewN | apply below_drew1 | refine below_set ?_ GE253.out) | exact HB.out)) hb); have n2_ := Aside0.mk (hbox); have n3_ := Aside0.mk ((by rw [hg]; exact (below_size (by repeat (first | (with_reducible first | exact HB.out | apply below_alloc | apply pw_below_drewN | apply below_drew1 | refine below_set ?_ GE253.out) | exact HB.out))) : w.heap.size ≤ gb254)); have n4_ := Aside0.mk ((by rw [hg]; exact (below_size (by repeat (first | (with_reducible first | exact HB.out | apply below_alloc | apply pw_below_drewN | apply below_drew1 | refine below_set ?_ GE253.out) | exact HB.out))) : w.heap.size ≤ gb254)); have n5_ := Aside0.mk ((by rw [hg]; exact Nat.ne_of_lt (blk_lt (g := gb253) (o := .cells #[.int .i64 a0_0, .int .i64 a0_1, .slice A0_2 l0_2.length c0_2, .slice A0_3 l0_3.length c0_3, .slice A0_4 l0_4.length c0_4] 24 (0, 0)) (by (with_reducible repeat (first | refine blk_drewN ?_ _ | refine blk_drew ?_ | refine blk_alloc ?_ _)); exact BK253.out)) : gb253 ≠ gb254)); have n6_ := Aside0.mk ((by rw [hg]; exact Nat.ne_of_gt (blk_lt (g := gb253) (o := .cells #[.int .i64 a0_0, .int .i64 a0_1, .slice A0_2 l0_2.length c0_2, .slice A0_3 l0_3.length c0_3, .slice A0_4 l0_4.length c0_4] 24 (0, 0)) (by (with_reducible repeat (first | refine blk_drewN ?_ _ | refine blk_drew ?_ | refine blk_alloc ?_ _)); exact BK253.out)) : gb254 ≠ gb253)); clear BK253; clear HB; have BK253 := n0_; have HB := n1_; have BK254 := n2_; have GW254 := n3_; have GE254 := n4_; have NB253_254 := n5_; have NB254_253 := n6_; clear n0_ n1_ n2_ n3_ n4_ n5_ n6_; clear hb hbox hg; have hnb10 := NB253_254.out; have hnc10 := NB254_253.out; have hcz11_0 : w9.cell? ⟨gb253, 0, none⟩ = some (.int .i64 a0_0) := (blk_cell BK253.out 0).trans rfl; have hcz11_1 : w9.cell? ⟨gb253, 1, none⟩ = some (.int .i64 a0_1) := (blk_cell BK253.out 1).trans rfl; have hcz11_2 : w9.cell? ⟨gb253, 2, none⟩ = some (.slice A0_2 l0_2.length c0_2) := (blk_cell BK253.out 2).trans rfl; have hcz11_3 : w9.cell? ⟨gb253, 3, none⟩ = some (.slice A0_3 l0_3.length c0_3) := (blk_cell BK253.out 3).trans rfl; have hcz11_4 : w9.cell? ⟨gb253, 4, none⟩ = some (.slice A0_4 l0_4.length c0_4) := (blk_cell BK253.out 4).trans rfl; have hfz11_0 := blk_frozen BK253.out 0; have hfz11_1 := blk_frozen BK253.out 1; have hfz11_2 := blk_frozen BK253.out 2; have hfz11_3 := blk_frozen BK253.out 3; have hfz11_4 := blk_frozen BK253.out 4) | ((with_reducible refine gate_callee (f := 10) rfl ?_); refine goesL_ (some 13) rfl rfl Try.func10 (by kernel_rfl) rfl #[.agg #[.int .i64 a0_0, .int .i64 a0_1, .slice A0_2 l0_2.length c0_2, .slice A0_3 l0_3.length c0_3, .slice A0_4 l0_4.length c0_4]] rfl (by (try simp only [List.map_toArray, List.map_cons, List.map_nil]); first | done | rfl | (simp only [List.length_drop, List.length_take]; rfl)) ?_; (with_reducible refine (cutroomlaw08_light.calls a0_0 a0_1 _ _ l0_2 _ _ l0_3 _ _ l0_4 true _ ?side1 ?side2 ?side3 ?side4 ?side5 ?side6 A3.out).mono ?_); (case side1 => repeat (first | exact (Kd.C_below HR0_2.out HB.out) | (with_reducible refine Kd.C_alloc ?_ _) | (with_reducible refine Kd.C_drewN ?_ _) | (with_reducible refine Kd.C_drew ?_))); (case side2 => exact HC0_2.out); (case side3 => repeat (first | exact (Kd.C_below HR0_3.out HB.out) | (with_reducible refine Kd.C_alloc ?_ _) | (with_reducible refine Kd.C_drewN ?_ _) | (with_reducible refine Kd.C_drew ?_))); (case side4 => exact HC0_3.out); (case side5 => repeat (first | exact (Kd.C_below HR0_4.out HB.out) | (with_reducible refine Kd.C_alloc ?_ _) | (with_reducible refine Kd.C_drewN ?_ _) | (with_reducible refine Kd.C_drew ?_))); (case side6 => exact HC0_4.out); rintro e w12 ⟨rfl, hb⟩; refine ⟨_, rfl, ?_⟩; have n0_ := Aside0.mk (blk_below (g := gb253) (o := .cells #[.int .i64 a0_0, .int .i64 a0_1, .slice A0_2 l0_2.length c0_2, .slice A0_3 l0_3.length c0_3, .slice A0_4 l0_4.length c0_4] 24 (0, 0)) (by (with_reducible repeat (first | refine blk_drewN ?_ _ | refine blk_drew ?_ | refine blk_alloc ?_ _)); exact BK253.out) hb); have n1_ := Aside0.mk (blk_below (g := gb254) (o := .cells #[.int .i64 a1_0, .int .i64 a1_1, .int .i64 a1_2, .int .i64 a1_3, .int .i64 a1_4, .int .i64 a1_5] 34 (0, 0)) (by (with_reducible repeat (first | refine blk_drewN ?_ _ | refine blk_drew ?_ | refine blk_alloc ?_ _)); exact BK254.out) hb); have n2_ := Aside0.mk (below_step (by repeat (first | (with_reducible first | exact HB.out | apply below_alloc | apply pw_below_drewN | apply below_drew1 | refine below_set ?_ GE253.out | refine below_set ?_ GE254.out) | exact HB.out)) hb); clear BK253; clear BK254; clear HB; have BK253 := n0_; have BK254 := n1_; have HB := n2_; clear n0_ n1_ n2_; (try clear hb); (try clear hb2); (try clear hk); (try clear hi); have hcz13_0 : w12.cell? ⟨gb253, 0, none⟩ = some (.int .i64 a0_0) := (blk_cell BK253.out 0).trans rfl; have hcz13_1 : w12.cell? ⟨gb253, 1, none⟩ = some (.int .i64 a0_1) := (blk_cell BK253.out 1).trans rfl; have hcz13_2 : w12.cell? ⟨gb253, 2, none⟩ = some (.slice A0_2 l0_2.length c0_2) := (blk_cell BK253.out 2).trans rfl; have hcz13_3 : w12.cell? ⟨gb253, 3, none⟩ = some (.slice A0_3 l0_3.length c0_3) := (blk_cell BK253.out 3).trans rfl; have hcz13_4 : w12.cell? ⟨gb253, 4, none⟩ = some (.slice A0_4 l0_4.length c0_4) := (blk_cell BK253.out 4).trans rfl; have hfz13_0 := blk_frozen BK253.out 0; have hfz13_1 := blk_frozen BK253.out 1; have hfz13_2 := blk_frozen BK253.out 2; have hfz13_3 := blk_frozen BK253.out 3; have hfz13_4 := blk_frozen BK253.out 4; have hcz14_0 : w12.cell? ⟨gb254, 0, none⟩ = some (.int .i64 a1_0) := (blk_cell BK254.out 0).trans rfl; have hcz14_1 : w12.cell? ⟨gb254, 1, none⟩ = some (.int .i64 a1_1) := (blk_cell BK254.out 1).trans rfl; have hcz14_2 : w12.cell? ⟨gb254, 2, none⟩ = some (.int .i64 a1_2) := (blk_cell BK254.out 2).trans rfl; have hcz14_3 : w12.cell? ⟨gb254, 3, none⟩ = some (.int .i64 a1_3) := (blk_cell BK254.out 3).trans rfl; have hcz14_4 : w12.cell? ⟨gb254, 4, none⟩ = some (.int .i64 a1_4) := (blk_cell BK254.out 4).trans rfl; have hcz14_5 : w12.cell? ⟨gb254, 5, none⟩ = some (.int .i64 a1_5) := (blk_cell BK254.out 5).trans rfl; have hfz14_0 := blk_frozen BK254.out 0; have hfz14_1 := blk_frozen BK254.out 1; have hfz14_2 := blk_frozen BK254.out 2; have hfz14_3 := blk_frozen BK254.out 3; have hfz14_4 := blk_frozen BK254.out 4; have hfz14_5 := blk_frozen BK254.out 5) | ((with_reducible refine gate_callee (f := 15) rfl ?_); refine goesL_ (some 27) rfl rfl Try.func15 (by kernel_rfl) rfl #[.agg #[.int .i64 a0_0, .int .i64 a0_1, .slice A0_2 l0_2.length c0_2, .slice A0_3 l0_3.length c0_3, .slice A0_4 l0_4.length c0_4], .int .i64 a1_0, .int .i64 a1_1, .int .i64 a1_2, .int .i64 a1_3, .agg #[.int .i64 a1_4, .int .i64 a1_5]] rfl (by (try simp only [List.map_toArray, List.map_cons, List.map_nil]); first | done | rfl | (simp only [List.length_drop, List.length_take]; rfl)) ?_; (with_reducible refine (motion_Predict.calls k a0_0 a0_1 _ _ l0_2 _ _ l0_3 _ _ l0_4 a1_0 a1_1 a1_2 a1_3 a1_4 a1_5 t256 t257 t258 t261 t264 t267 _ ?side1 ?side2 ?side3 ?side4 ?side5 ?side6 A5.out).mono ?_); (case side1 => repeat (first | exact (Kd.C_below HR0_2.out HB.out) | (with_reducible refine Kd.C_alloc ?_ _) | (with_reducible refine Kd.C_drewN ?_ _) | (with_reducible refine Kd.C_drew ?_))); (case side2 => exact HC0_2.out); (case side3 => repeat (first | exact (Kd.C_below HR0_3.out HB.out) | (with_reducible refine Kd.C_alloc ?_ _) | (with_reducible refine Kd.C_drewN ?_ _) | (with_reducible refine Kd.C_drew ?_))); (case side4 => exact HC0_3.out); (case side5 => repeat (first | exact (Kd.C_below HR0_4.out HB.out) | (with_reducible refine Kd.C_alloc ?_ _) | (with_reducible refine Kd.C_drewN ?_ _) | (with_reducible refine Kd.C_drew ?_))); (case side6 => exact HC0_4.out); rintro e w15 ⟨v259, v262, v265, rfl, ho0, ho1, ho2, hb⟩; refine ⟨_, rfl, ?_⟩; have n0_ := Aside0.mk (Kd.R_lower ho0 (below_size (by repeat (first | (with_reducible first | exact HB.out | apply below_alloc | apply pw_below_drewN | apply below_drew1 | refine below_set ?_ GE253.out | refine below_set ?_ GE254.out) | exact HB.out)))); have n1_ := Aside0.mk (Kd.R_lower ho1 (below_size (by repeat (first | (with_reducible first | exact HB.out | apply below_alloc | apply pw_below_drewN | apply below_drew1 | refine below_set ?_ GE253.out | refine below_set ?_ GE254.out) | exact HB.out)))); have n2_ := Aside0.mk (Kd.R_lower ho2 (below_size (by repeat (first | (with_reducible first | exact HB.out | apply below_alloc | apply pw_below_drewN | apply below_drew1 | refine below_set ?_ GE253.out | refine below_set ?_ GE254.out) | exact HB.out)))); have n3_ := Aside0.mk (blk_below (g := gb253) (o := .cells #[.int .i64 a0_0, .int .i64 a0_1, .slice A0_2 l0_2.length c0_2, .slice A0_3 l0_3.length c0_3, .slice A0_4 l0_4.length c0_4] 24 (0, 0)) (by (with_reducible repeat (first | refine blk_drewN ?_ _ | refine blk_drew ?_ | refine blk_alloc ?_ _)); exact BK253.out) hb); have n4_ := Aside0.mk (blk_below (g := gb254) (o := .cells #[.int .i64 a1_0, .int .i64 a1_1, .int .i64 a1_2, .int .i64 a1_3, .int .i64 a1_4, .int .i64 a1_5] 34 (0, 0)) (by (with_reducible repeat (first | refine blk_drewN ?_ _ | refine blk_drew ?_ | refine blk_alloc ?_ _)); exact BK254.out) hb); have n5_ := Aside0.mk (below_step (by repeat (first | (with_reducible first | exact HB.out | apply below_alloc | apply pw_below_drewN | apply below_drew1 | refine below_set ?_ GE253.out | refine below_set ?_ GE254.out) | exact HB.out)) hb); clear BK253; clear BK254; clear HB; have HO260 := n0_; have HO263 := n1_; have HO266 := n2_; have BK253 := n3_; have BK254 := n4_; have HB := n5_; clear n0_ n1_ n2_ n3_ n4_ n5_; (try clear hb); (try clear hb2); (try clear hk); (try clear hi); (try clear ho0); (try clear ho1); (try clear ho2)) | ((with_reducible refine gate_dst (N := 5) rfl ?_); (try (refine gate_guard (by rfl) ?_; dsimp only)); refine box_event ?hg (N := 5) ?hd (cs := #[.int .i64 0, .int .i64 0, .slice none 0 0, .slice none 0 0, .slice none 0 0]) (t := 24) ?hr ?_; (case hd => rfl); (case hg => rfl); (case hr => first | (go_simp; done) | (go_simp; rfl)); intro gb268 hg w16 hbox hb; have n0_ := Aside0.mk (Kd.R_below (by (with_reducible repeat (first | apply Kd.R_alloc | apply Kd.R_drewN | apply Kd.R_drew)); exact HO260.out) hb); have n1_ := Aside0.mk (Kd.R_below (by (with_reducible repeat (first | apply Kd.R_alloc | apply Kd.R_drewN | apply Kd.R_drew)); exact HO263.out) hb); have n2_ := Aside0.mk (Kd.R_below (by (with_reducible repeat (first | apply Kd.R_alloc | apply Kd.R_drewN | apply Kd.R_drew)); exact HO266.out) hb); have n3_ := Aside0.mk (blk_below (g := gb253) (o := .cells #[.int .i64 a0_0, .int .i64 a0_1, .slice A0_2 l0_2.length c0_2, .slice A0_3 l0_3.length c0_3, .slice A0_4 l0_4.length c0_4] 24 (0, 0)) (by (with_reducible repeat (first | refine blk_drewN ?_ _ | refine blk_drew ?_ | refine blk_alloc ?_ _)); exact BK253.out) hb); have n4_ := Aside0.mk (blk_below (g := gb254) (o := .cells #[.int .i64 a1_0, .int .i64 a1_1, .int .i64 a1_2, .int .i64 a1_3, .int .i64 a1_4, .int .i64 a1_5] 34 (0, 0)) (by (with_reducible repeat (first | refine blk_drewN ?_ _ | refine blk_drew ?_ | refine blk_alloc ?_ _)); exact BK254.out) hb); have n5_ := Aside0.mk (below_step (by repeat (first | (with_reducible first | exact HB.out | apply below_alloc | apply pw_below_drewN | apply below_drew1 | refine below_set ?_ GE253.out | refine below_set ?_ GE254.out) | exact HB.out)) hb); have n6_ := Aside0.mk (hbox); have n7_ := Aside0.mk ((by rw [hg]; exact (below_size (by repeat (first | (with_reducible first | exact HB.out | apply below_alloc | apply pw_below_drewN | apply below_drew1 | refine below_set ?_ GE253.out | refine below_set ?_ GE254.out) | exact HB.out))) : w.heap.size ≤ gb268)); have n8_ := Aside0.mk ((by rw [hg]; exact (below_size (by repeat (first | (with_reducible first | exact HB.out | apply below_alloc | apply pw_below_drewN | apply below_drew1 | refine below_set ?_ GE253.out | refine below_set ?_ GE254.out) | exact HB.out))) : w.heap.size ≤ gb268)); have n9_ := Aside0.mk ((by rw [hg]; exact Nat.ne_of_lt (blk_lt (g := gb253) (o := .cells #[.int .i64 a0_0, .int .i64 a0_1, .slice A0_2 l0_2.length c0_2, .slice A0_3 l0_3.length c0_3, .slice A0_4 l0_4.length c0_4] 24 (0, 0)) (by (with_reducible repeat (first | refine blk_drewN ?_ _ | refine blk_drew ?_ | refine blk_alloc ?_ _)); exact BK253.out)) : gb253 ≠ gb268)); have n10_ := Aside0.mk ((by rw [hg]; exact Nat.ne_of_gt (blk_lt (g := gb253) (o := .cells #[.int .i64 a0_0, .int .i64 a0_1, .slice A0_2 l0_2.length c0_2, .slice A0_3 l0_3.length c0_3, .slice A0_4 l0_4.length c0_4] 24 (0, 0)) (by (with_reducible repeat (first | refine blk_drewN ?_ _ | refine blk_drew ?_ | refine blk_alloc ?_ _)); exact BK253.out)) : gb268 ≠ gb253)); have n11_ := Aside0.mk ((by rw [hg]; exact Nat.ne_of_lt (blk_lt (g := gb254) (o := .cells #[.int .i64 a1_0, .int .i64 a1_1, .int .i64 a1_2, .int .i64 a1_3, .int .i64 a1_4, .int .i64 a1_5] 34 (0, 0)) (by (with_reducible repeat (first | refine blk_drewN ?_ _ | refine blk_drew ?_ | refine blk_alloc ?_ _)); exact BK254.out)) : gb254 ≠ gb268)); have n12_ := Aside0.mk ((by rw [hg]; exact Nat.ne_of_gt (blk_lt (g := gb254) (o := .cells #[.int .i64 a1_0, .int .i64 a1_1, .int .i64 a1_2, .int .i64 a1_3, .int .i64 a1_4, .int .i64 a1_5] 34 (0, 0)) (by (with_reducible repeat (first | refine blk_drewN ?_ _ | refine blk_drew ?_ | refine blk_alloc ?_ _)); exact BK254.out)) : gb268 ≠ gb254)); clear HO260; clear HO263; clear HO266; clear BK253; clear BK254; clear HB; have HO260 := n0_; have HO263 := n1_; have HO266 := n2_; have BK253 := n3_; have BK254 := n4_; have HB := n5_; have BK268 := n6_; have GW268 := n7_; have GE268 := n8_; have NB253_268 := n9_; have NB268_253 := n10_; have NB254_268 := n11_; have NB268_254 := n12_; clear n0_ n1_ n2_ n3_ n4_ n5_ n6_ n7_ n8_ n9_ n10_ n11_ n12_; clear hb hbox hg; have hnb17 := NB268_253.out; have hnc17 := NB253_268.out; have hnb18 := NB268_254.out; have hnc18 := NB254_268.out; have hcz19_0 : w16.cell? ⟨gb268, 0, none⟩ = some (.int .i64 0) := (blk_cell BK268.out 0).trans rfl; have hcz19_1 : w16.cell? ⟨gb268, 1, none⟩ = some (.int .i64 0) := (blk_cell BK268.out 1).trans rfl; have hcz19_2 : w16.cell? ⟨gb268, 2, none⟩ = some (.slice none 0 0) := (blk_cell BK268.out 2).trans rfl; have hcz19_3 : w16.cell? ⟨gb268, 3, none⟩ = some (.slice none 0 0) := (blk_cell BK268.out 3).trans rfl; have hcz19_4 : w16.cell? ⟨gb268, 4, none⟩ = some (.slice none 0 0) := (blk_cell BK268.out 4).trans rfl; have hfz19_0 := blk_frozen BK268.out 0; have hfz19_1 := blk_frozen BK268.out 1; have hfz19_2 := blk_frozen BK268.out 2; have hfz19_3 := blk_frozen BK268.out 3; have hfz19_4 := blk_frozen BK268.out 4; obtain ⟨Ao20, co20, eo20⟩ := Kd.R_slice HO260.out; subst eo20; obtain ⟨Ao21, co21, eo21⟩ := Kd.R_slice HO263.out; subst eo21; obtain ⟨Ao22, co22, eo22⟩ := Kd.R_slice HO266.out; subst eo22; have hcz23_0 : w16.cell? ⟨gb253, 0, none⟩ = some (.int .i64 a0_0) := (blk_cell BK253.out 0).trans rfl; have hcz23_1 : w16.cell? ⟨gb253, 1, none⟩ = some (.int .i64 a0_1) := (blk_cell BK253.out 1).trans rfl; have hcz23_2 : w16.cell? ⟨gb253, 2, none⟩ = some (.slice A0_2 l0_2.length c0_2) := (blk_cell BK253.out 2).trans rfl; have hcz23_3 : w16.cell? ⟨gb253, 3, none⟩ = some (.slice A0_3 l0_3.length c0_3) := (blk_cell BK253.out 3).trans rfl; have hcz23_4 : w16.cell? ⟨gb253, 4, none⟩ = some (.slice A0_4 l0_4.length c0_4) := (blk_cell BK253.out 4).trans rfl; have hfz23_0 := blk_frozen BK253.out 0; have hfz23_1 := blk_frozen BK253.out 1; have hfz23_2 := blk_frozen BK253.out 2; have hfz23_3 := blk_frozen BK253.out 3; have hfz23_4 := blk_frozen BK253.out 4) | ((with_reducible refine gate_callee (f := 21) rfl ?_); refine goesL_ (some 34) rfl rfl Try.func21 (by kernel_rfl) rfl #[.agg #[.int .i64 a0_0, .int .i64 a0_1, .slice A0_2 l0_2.length c0_2, .slice A0_3 l0_3.length c0_3, .slice A0_4 l0_4.length c0_4]] rfl (by (try simp only [List.map_toArray, List.map_cons, List.map_nil]); first | done | rfl | (simp only [List.length_drop, List.length_take]; rfl)) ?_; (with_reducible refine (cutroomref07_Copy.calls a0_0 a0_1 _ _ l0_2 _ _ l0_3 _ _ l0_4 t270 t271 t272 t275 t278 _ ?side1 ?side2 ?side3 ?side4 ?side5 ?side6 A7.out).mono ?_); (case side1 => exact Kd.C_below HR0_2.out (by repeat (first | (with_reducible first | exact HB.out | apply below_alloc | apply pw_below_drewN | apply below_drew1 | refine below_set ?_ GE253.out | refine below_set ?_ GE254.out | refine below_set ?_ GE268.out) | exact HB.out))); (case side2 => exact HC0_2.out); (case side3 => exact Kd.C_below HR0_3.out (by repeat (first | (with_reducible first | exact HB.out | apply below_alloc | apply pw_below_drewN | apply below_drew1 | refine below_set ?_ GE253.out | refine below_set ?_ GE254.out | refine below_set ?_ GE268.out) | exact HB.out))); (case side4 => exact HC0_3.out); (case side5 => exact Kd.C_below HR0_4.out (by repeat (first | (with_reducible first | exact HB.out | apply below_alloc | apply pw_below_drewN | apply below_drew1 | refine below_set ?_ GE253.out | refine below_set ?_ GE254.out | refine below_set ?_ GE268.out) | exact HB.out))); (case side6 => exact HC0_4.out); rintro e w24 ⟨v273, v276, v279, rfl, ho0, ho1, ho2, hb⟩; refine ⟨_, rfl, ?_⟩; have n0_ := Aside0.mk (Kd.R_mono (Kd.R_told (Kd.R_told (Kd.R_told (Kd.R_old (by (with_reducible repeat (first | apply Kd.R_alloc | apply Kd.R_drewN | apply Kd.R_drew)); exact (Kd.R_mono (Kd.R_far (p := ⟨gb268, 4, none⟩) (Kd.R_far (p := ⟨gb268, 3, none⟩) (Kd.R_far (p := ⟨gb268, 2, none⟩) (Kd.R_far (p := ⟨gb268, 1, none⟩) (Kd.R_far (p := ⟨gb268, 0, none⟩) (Kd.R_types HO260.out BK268.out (by decide)) (fun _ hk => hk.2) (.int .i64 t256)) (fun _ hk => hk.2) (.int .i64 t257)) (fun _ hk => hk.2) (.slice Ao20 t258.length co20)) (fun _ hk => hk.2) (.slice Ao21 t261.length co21)) (fun _ hk => hk.2) (.slice Ao22 t264.length co22)) (fun _ h_ => h_.1))) hb) (Kd.R_base ho0)) (Kd.R_base ho1)) (Kd.R_base ho2)) (fun _ h_ => h_.1)); have n1_ := Aside0.mk (Kd.R_mono (Kd.R_told (Kd.R_told (Kd.R_told (Kd.R_old (by (with_reducible repeat (first | apply Kd.R_alloc | apply Kd.R_drewN | apply Kd.R_drew)); exact (Kd.R_mono (Kd.R_far (p := ⟨gb268, 4, none⟩) (Kd.R_far (p := ⟨gb268, 3, none⟩) (Kd.R_far (p := ⟨gb268, 2, none⟩) (Kd.R_far (p := ⟨gb268, 1, none⟩) (Kd.R_far (p := ⟨gb268, 0, none⟩) (Kd.R_types HO263.out BK268.out (by decide)) (fun _ hk => hk.2) (.int .i64 t256)) (fun _ hk => hk.2) (.int .i64 t257)) (fun _ hk => hk.2) (.slice Ao20 t258.length co20)) (fun _ hk => hk.2) (.slice Ao21 t261.length co21)) (fun _ hk => hk.2) (.slice Ao22 t264.length co22)) (fun _ h_ => h_.1))) hb) (Kd.R_base ho0)) (Kd.R_base ho1)) (Kd.R_base ho2)) (fun _ h_ => h_.1)); have n2_ := Aside0.mk (Kd.R_mono (Kd.R_told (Kd.R_told (Kd.R_told (Kd.R_old (by (with_reducible repeat (first | apply Kd.R_alloc | apply Kd.R_drewN | apply Kd.R_drew)); exact (Kd.R_mono (Kd.R_far (p := ⟨gb268, 4, none⟩) (Kd.R_far (p := ⟨gb268, 3, none⟩) (Kd.R_far (p := ⟨gb268, 2, none⟩) (Kd.R_far (p := ⟨gb268, 1, none⟩) (Kd.R_far (p := ⟨gb268, 0, none⟩) (Kd.R_types HO266.out BK268.out (by decide)) (fun _ hk => hk.2) (.int .i64 t256)) (fun _ hk => hk.2) (.int .i64 t257)) (fun _ hk => hk.2) (.slice Ao20 t258.length co20)) (fun _ hk => hk.2) (.slice Ao21 t261.length co21)) (fun _ hk => hk.2) (.slice Ao22 t264.length co22)) (fun _ h_ => h_.1))) hb) (Kd.R_base ho0)) (Kd.R_base ho1)) (Kd.R_base ho2)) (fun _ h_ => h_.1)); have n3_ := Aside0.mk (Kd.R_lower (Kd.R_new' (Kd.R_new' (Kd.R_new' ho0 (Kd.R_lt (by (with_reducible repeat (first | apply Kd.R_alloc | apply Kd.R_drewN | apply Kd.R_drew)); exact (Kd.R_mono (Kd.R_far (p := ⟨gb268, 4, none⟩) (Kd.R_far (p := ⟨gb268, 3, none⟩) (Kd.R_far (p := ⟨gb268, 2, none⟩) (Kd.R_far (p := ⟨gb268, 1, none⟩) (Kd.R_far (p := ⟨gb268, 0, none⟩) (Kd.R_types HO260.out BK268.out (by decide)) (fun _ hk => hk.2) (.int .i64 t256)) (fun _ hk => hk.2) (.int .i64 t257)) (fun _ hk => hk.2) (.slice Ao20 t258.length co20)) (fun _ hk => hk.2) (.slice Ao21 t261.length co21)) (fun _ hk => hk.2) (.slice Ao22 t264.length co22)) (fun _ h_ => h_.1))))) (Kd.R_lt (by (with_reducible repeat (first | apply Kd.R_alloc | apply Kd.R_drewN | apply Kd.R_drew)); exact (Kd.R_mono (Kd.R_far (p := ⟨gb268, 4, none⟩) (Kd.R_far (p := ⟨gb268, 3, none⟩) (Kd.R_far (p := ⟨gb268, 2, none⟩) (Kd.R_far (p := ⟨gb268, 1, none⟩) (Kd.R_far (p := ⟨gb268, 0, none⟩) (Kd.R_types HO263.out BK268.out (by decide)) (fun _ hk => hk.2) (.int .i64 t256)) (fun _ hk => hk.2) (.int .i64 t257)) (fun _ hk => hk.2) (.slice Ao20 t258.length co20)) (fun _ hk => hk.2) (.slice Ao21 t261.length co21)) (fun _ hk => hk.2) (.slice Ao22 t264.length co22)) (fun _ h_ => h_.1))))) (Kd.R_lt (by (with_reducible repeat (first | apply Kd.R_alloc | apply Kd.R_drewN | apply Kd.R_drew)); exact (Kd.R_mono (Kd.R_far (p := ⟨gb268, 4, none⟩) (Kd.R_far (p := ⟨gb268, 3, none⟩) (Kd.R_far (p := ⟨gb268, 2, none⟩) (Kd.R_far (p := ⟨gb268, 1, none⟩) (Kd.R_far (p := ⟨gb268, 0, none⟩) (Kd.R_types HO266.out BK268.out (by decide)) (fun _ hk => hk.2) (.int .i64 t256)) (fun _ hk => hk.2) (.int .i64 t257)) (fun _ hk => hk.2) (.slice Ao20 t258.length co20)) (fun _ hk => hk.2) (.slice Ao21 t261.length co21)) (fun _ hk => hk.2) (.slice Ao22 t264.length co22)) (fun _ h_ => h_.1))))) (below_size (by repeat (first | (with_reducible first | exact HB.out | apply below_alloc | apply pw_below_drewN | apply below_drew1 | refine below_set ?_ GE253.out | refine below_set ?_ GE254.out | refine below_set ?_ GE268.out) | exact HB.out)))); have n4_ := Aside0.mk (Kd.R_lower (Kd.R_new' (Kd.R_new' (Kd.R_new' ho1 (Kd.R_lt (by (with_reducible repeat (first | apply Kd.R_alloc | apply Kd.R_drewN | apply Kd.R_drew)); exact (Kd.R_mono (Kd.R_far (p := ⟨gb268, 4, none⟩) (Kd.R_far (p := ⟨gb268, 3, none⟩) (Kd.R_far (p := ⟨gb268, 2, none⟩) (Kd.R_far (p := ⟨gb268, 1, none⟩) (Kd.R_far (p := ⟨gb268, 0, none⟩) (Kd.R_types HO260.out BK268.out (by decide)) (fun _ hk => hk.2) (.int .i64 t256)) (fun _ hk => hk.2) (.int .i64 t257)) (fun _ hk => hk.2) (.slice Ao20 t258.length co20)) (fun _ hk => hk.2) (.slice Ao21 t261.length co21)) (fun _ hk => hk.2) (.slice Ao22 t264.length co22)) (fun _ h_ => h_.1))))) (Kd.R_lt (by (with_reducible repeat (first | apply Kd.R_alloc | apply Kd.R_drewN | apply Kd.R_drew)); exact (Kd.R_mono (Kd.R_far (p := ⟨gb268, 4, none⟩) (Kd.R_far (p := ⟨gb268, 3, none⟩) (Kd.R_far (p := ⟨gb268, 2, none⟩) (Kd.R_far (p := ⟨gb268, 1, none⟩) (Kd.R_far (p := ⟨gb268, 0, none⟩) (Kd.R_types HO263.out BK268.out (by decide)) (fun _ hk => hk.2) (.int .i64 t256)) (fun _ hk => hk.2) (.int .i64 t257)) (fun _ hk => hk.2) (.slice Ao20 t258.length co20)) (fun _ hk => hk.2) (.slice Ao21 t261.length co21)) (fun _ hk => hk.2) (.slice Ao22 t264.length co22)) (fun _ h_ => h_.1))))) (Kd.R_lt (by (with_reducible repeat (first | apply Kd.R_alloc | apply Kd.R_drewN | apply Kd.R_drew)); exact (Kd.R_mono (Kd.R_far (p := ⟨gb268, 4, none⟩) (Kd.R_far (p := ⟨gb268, 3, none⟩) (Kd.R_far (p := ⟨gb268, 2, none⟩) (Kd.R_far (p := ⟨gb268, 1, none⟩) (Kd.R_far (p := ⟨gb268, 0, none⟩) (Kd.R_types HO266.out BK268.out (by decide)) (fun _ hk => hk.2) (.int .i64 t256)) (fun _ hk => hk.2) (.int .i64 t257)) (fun _ hk => hk.2) (.slice Ao20 t258.length co20)) (fun _ hk => hk.2) (.slice Ao21 t261.length co21)) (fun _ hk => hk.2) (.slice Ao22 t264.length co22)) (fun _ h_ => h_.1))))) (below_size (by repeat (first | (with_reducible first | exact HB.out | apply below_alloc | apply pw_below_drewN | apply below_drew1 | refine below_set ?_ GE253.out | refine below_set ?_ GE254.out | refine below_set ?_ GE268.out) | exact HB.out)))); have n5_ := Aside0.mk (Kd.R_lower (Kd.R_new' (Kd.R_new' (Kd.R_new' ho2 (Kd.R_lt (by (with_reducible repeat (first | apply Kd.R_alloc | apply Kd.R_drewN | apply Kd.R_drew)); exact (Kd.R_mono (Kd.R_far (p := ⟨gb268, 4, none⟩) (Kd.R_far (p := ⟨gb268, 3, none⟩) (Kd.R_far (p := ⟨gb268, 2, none⟩) (Kd.R_far (p := ⟨gb268, 1, none⟩) (Kd.R_far (p := ⟨gb268, 0, none⟩) (Kd.R_types HO260.out BK268.out (by decide)) (fun _ hk => hk.2) (.int .i64 t256)) (fun _ hk => hk.2) (.int .i64 t257)) (fun _ hk => hk.2) (.slice Ao20 t258.length co20)) (fun _ hk => hk.2) (.slice Ao21 t261.length co21)) (fun _ hk => hk.2) (.slice Ao22 t264.length co22)) (fun _ h_ => h_.1))))) (Kd.R_lt (by (with_reducible repeat (first | apply Kd.R_alloc | apply Kd.R_drewN | apply Kd.R_drew)); exact (Kd.R_mono (Kd.R_far (p := ⟨gb268, 4, none⟩) (Kd.R_far (p := ⟨gb268, 3, none⟩) (Kd.R_far (p := ⟨gb268, 2, none⟩) (Kd.R_far (p := ⟨gb268, 1, none⟩) (Kd.R_far (p := ⟨gb268, 0, none⟩) (Kd.R_types HO263.out BK268.out (by decide)) (fun _ hk => hk.2) (.int .i64 t256)) (fun _ hk => hk.2) (.int .i64 t257)) (fun _ hk => hk.2) (.slice Ao20 t258.length co20)) (fun _ hk => hk.2) (.slice Ao21 t261.length co21)) (fun _ hk => hk.2) (.slice Ao22 t264.length co22)) (fun _ h_ => h_.1))))) (Kd.R_lt (by (with_reducible repeat (first | apply Kd.R_alloc | apply Kd.R_drewN | apply Kd.R_drew)); exact (Kd.R_mono (Kd.R_far (p := ⟨gb268, 4, none⟩) (Kd.R_far (p := ⟨gb268, 3, none⟩) (Kd.R_far (p := ⟨gb268, 2, none⟩) (Kd.R_far (p := ⟨gb268, 1, none⟩) (Kd.R_far (p := ⟨gb268, 0, none⟩) (Kd.R_types HO266.out BK268.out (by decide)) (fun _ hk => hk.2) (.int .i64 t256)) (fun _ hk => hk.2) (.int .i64 t257)) (fun _ hk => hk.2) (.slice Ao20 t258.length co20)) (fun _ hk => hk.2) (.slice Ao21 t261.length co21)) (fun _ hk => hk.2) (.slice Ao22 t264.length co22)) (fun _ h_ => h_.1))))) (below_size (by repeat (first | (with_reducible first | exact HB.out | apply below_alloc | apply pw_below_drewN | apply below_drew1 | refine below_set ?_ GE253.out | refine below_set ?_ GE254.out | refine below_set ?_ GE268.out) | exact HB.out)))); have n6_ := Aside0.mk (blk_below (g := gb253) (o := .cells #[.int .i64 a0_0, .int .i64 a0_1, .slice A0_2 l0_2.length c0_2, .slice A0_3 l0_3.length c0_3, .slice A0_4 l0_4.length c0_4] 24 (0, 0)) (by (with_reducible repeat (first | refine blk_drewN ?_ _ | refine blk_drew ?_ | refine blk_alloc ?_ _)); refine blk_far ?_ NB253_268.out _; (with_reducible repeat (first | refine blk_drewN ?_ _ | refine blk_drew ?_ | refine blk_alloc ?_ _)); refine blk_far ?_ NB253_268.out _; (with_reducible repeat (first | refine blk_drewN ?_ _ | refine blk_drew ?_ | refine blk_alloc ?_ _)); refine blk_far ?_ NB253_268.out _; (with_reducible repeat (first | refine blk_drewN ?_ _ | refine blk_drew ?_ | refine blk_alloc ?_ _)); refine blk_far ?_ NB253_268.out _; (with_reducible repeat (first | refine blk_drewN ?_ _ | refine blk_drew ?_ | refine blk_alloc ?_ _)); refine blk_far ?_ NB253_268.out _; (with_reducible repeat (first | refine blk_drewN ?_ _ | refine blk_drew ?_ | refine blk_alloc ?_ _)); exact BK253.out) hb); have n7_ := Aside0.mk (blk_below (g := gb254) (o := .cells #[.int .i64 a1_0, .int .i64 a1_1, .int .i64 a1_2, .int .i64 a1_3, .int .i64 a1_4, .int .i64 a1_5] 34 (0, 0)) (by (with_reducible repeat (first | refine blk_drewN ?_ _ | refine blk_drew ?_ | refine blk_alloc ?_ _)); refine blk_far ?_ NB254_268.out _; (with_reducible repeat (first | refine blk_drewN ?_ _ | refine blk_drew ?_ | refine blk_alloc ?_ _)); refine blk_far ?_ NB254_268.out _; (with_reducible repeat (first | refine blk_drewN ?_ _ | refine blk_drew ?_ | refine blk_alloc ?_ _)); refine blk_far ?_ NB254_268.out _; (with_reducible repeat (first | refine blk_drewN ?_ _ | refine blk_drew ?_ | refine blk_alloc ?_ _)); refine blk_far ?_ NB254_268.out _; (with_reducible repeat (first | refine blk_drewN ?_ _ | refine blk_drew ?_ | refine blk_alloc ?_ _)); refine blk_far ?_ NB254_268.out _; (with_reducible repeat (first | refine blk_drewN ?_ _ | refine blk_drew ?_ | refine blk_alloc ?_ _)); exact BK254.out) hb); have n8_ := Aside0.mk (blk_below (g := gb268) (o := .cells #[.int .i64 t256, .int .i64 t257, .slice Ao20 t258.length co20, .slice Ao21 t261.length co21, .slice Ao22 t264.length co22] 24 (0, 0)) (by (with_reducible repeat (first | refine blk_drewN ?_ _ | refine blk_drew ?_ | refine blk_alloc ?_ _)); refine blk_put (cs := #[.int .i64 t256, .int .i64 t257, .slice Ao20 t258.length co20, .slice Ao21 t261.length co21, .slice none 0 0]) ?_ 4 _ rfl; (with_reducible repeat (first | refine blk_drewN ?_ _ | refine blk_drew ?_ | refine blk_alloc ?_ _)); refine blk_put (cs := #[.int .i64 t256, .int .i64 t257, .slice Ao20 t258.length co20, .slice none 0 0, .slice none 0 0]) ?_ 3 _ rfl; (with_reducible repeat (first | refine blk_drewN ?_ _ | refine blk_drew ?_ | refine blk_alloc ?_ _)); refine blk_put (cs := #[.int .i64 t256, .int .i64 t257, .slice none 0 0, .slice none 0 0, .slice none 0 0]) ?_ 2 _ rfl; (with_reducible repeat (first | refine blk_drewN ?_ _ | refine blk_drew ?_ | refine blk_alloc ?_ _)); refine blk_put (cs := #[.int .i64 t256, .int .i64 0, .slice none 0 0, .slice none 0 0, .slice none 0 0]) ?_ 1 _ rfl; (with_reducible repeat (first | refine blk_drewN ?_ _ | refine blk_drew ?_ | refine blk_alloc ?_ _)); refine blk_put (cs := #[.int .i64 0, .int .i64 0, .slice none 0 0, .slice none 0 0, .slice none 0 0]) ?_ 0 _ rfl; (with_reducible repeat (first | refine blk_drewN ?_ _ | refine blk_drew ?_ | refine blk_alloc ?_ _)); exact BK268.out) hb); have n9_ := Aside0.mk (below_step (by repeat (first | (with_reducible first | exact HB.out | apply below_alloc | apply pw_below_drewN | apply below_drew1 | refine below_set ?_ GE253.out | refine below_set ?_ GE254.out | refine below_set ?_ GE268.out) | exact HB.out)) hb); clear HO260; clear HO263; clear HO266; clear BK253; clear BK254; clear BK268; clear HB; have HO260 := n0_; have HO263 := n1_; have HO266 := n2_; have HO274 := n3_; have HO277 := n4_; have HO280 := n5_; have BK253 := n6_; have BK254 := n7_; have BK268 := n8_; have HB := n9_; clear n0_ n1_ n2_ n3_ n4_ n5_ n6_ n7_ n8_ n9_; (try clear hb); (try clear hb2); (try clear hk); (try clear hi); (try clear ho0); (try clear ho1); (try clear ho2)) | ((with_reducible refine gate_dst (N := 7) rfl ?_); (try (refine gate_guard (by rfl) ?_; dsimp only)); refine box_event ?hg (N := 7) ?hd (cs := #[.int .i64 0, .int .i64 0, .slice none 0 0, .slice none 0 0, .slice none 0 0]) (t := 24) ?hr ?_; (case hd => rfl); (case hg => rfl); (case hr => first | (go_simp; done) | (go_simp; rfl)); intro gb281 hg w25 hbox hb; have n0_ := Aside0.mk (Kd.R_below (by (with_reducible repeat (first | apply Kd.R_alloc | apply Kd.R_drewN | apply Kd.R_drew)); exact HO260.out) hb); have n1_ := Aside0.mk (Kd.R_below (by (with_reducible repeat (first | apply Kd.R_alloc | apply Kd.R_drewN | apply Kd.R_drew)); exact HO263.out) hb); have n2_ := Aside0.mk (Kd.R_below (by (with_reducible repeat (first | apply Kd.R_alloc | apply Kd.R_drewN | apply Kd.R_drew)); exact HO266.out) hb); have n3_ := Aside0.mk (Kd.R_below (by (with_reducible repeat (first | apply Kd.R_alloc | apply Kd.R_drewN | apply Kd.R_drew)); exact HO274.out) hb); have n4_ := Aside0.mk (Kd.R_below (by (with_reducible repeat (first | apply Kd.R_alloc | apply Kd.R_drewN | apply Kd.R_drew)); exact HO277.out) hb); have n5_ := Aside0.mk (Kd.R_below (by (with_reducible repeat (first | apply Kd.R_alloc | apply Kd.R_drewN | apply Kd.R_drew)); exact HO280.out) hb); have n6_ := Aside0.mk (blk_below (g := gb253) (o := .cells #[.int .i64 a0_0, .int .i64 a0_1, .slice A0_2 l0_2.length c0_2, .slice A0_3 l0_3.length c0_3, .slice A0_4 l0_4.length c0_4] 24 (0, 0)) (by (with_reducible repeat (first | refine blk_drewN ?_ _ | refine blk_drew ?_ | refine blk_alloc ?_ _)); exact BK253.out) hb); have n7_ := Aside0.mk (blk_below (g := gb254) (o := .cells #[.int .i64 a1_0, .int .i64 a1_1, .int .i64 a1_2, .int .i64 a1_3, .int .i64 a1_4, .int .i64 a1_5] 34 (0, 0)) (by (with_reducible repeat (first | refine blk_drewN ?_ _ | refine blk_drew ?_ | refine blk_alloc ?_ _)); exact BK254.out) hb); have n8_ := Aside0.mk (blk_below (g := gb268) (o := .cells #[.int .i64 t256, .int .i64 t257, .slice Ao20 t258.length co20, .slice Ao21 t261.length co21, .slice Ao22 t264.length co22] 24 (0, 0)) (by (with_reducible repeat (first | refine blk_drewN ?_ _ | refine blk_drew ?_ | refine blk_alloc ?_ _)); exact BK268.out) hb); have n9_ := Aside0.mk (below_step (by repeat (first | (with_reducible first | exact HB.out | apply below_alloc | apply pw_below_drewN | apply below_drew1 | refine below_set ?_ GE253.out | refine below_set ?_ GE254.out | refine below_set ?_ GE268.out) | exact HB.out)) hb); have n10_ := Aside0.mk (hbox); have n11_ := Aside0.mk ((by rw [hg]; exact (below_size (by repeat (first | (with_reducible first | exact HB.out | apply below_alloc | apply pw_below_drewN | apply below_drew1 | refine below_set ?_ GE253.out | refine below_set ?_ GE254.out | refine below_set ?_ GE268.out) | exact HB.out))) : w.heap.size ≤ gb281)); have n12_ := Aside0.mk ((by rw [hg]; exact (below_size (by repeat (first | (with_reducible first | exact HB.out | apply below_alloc | apply pw_below_drewN | apply below_drew1 | refine below_set ?_ GE253.out | refine below_set ?_ GE254.out | refine below_set ?_ GE268.out) | exact HB.out))) : w.heap.size ≤ gb281)); have n13_ := Aside0.mk ((by rw [hg]; exact Nat.ne_of_lt (blk_lt (g := gb253) (o := .cells #[.int .i64 a0_0, .int .i64 a0_1, .slice A0_2 l0_2.length c0_2, .slice A0_3 l0_3.length c0_3, .slice A0_4 l0_4.length c0_4] 24 (0, 0)) (by (with_reducible repeat (first | refine blk_drewN ?_ _ | refine blk_drew ?_ | refine blk_alloc ?_ _)); exact BK253.out)) : gb253 ≠ gb281)); have n14_ := Aside0.mk ((by rw [hg]; exact Nat.ne_of_gt (blk_lt (g := gb253) (o := .cells #[.int .i64 a0_0, .int .i64 a0_1, .slice A0_2 l0_2.length c0_2, .slice A0_3 l0_3.length c0_3, .slice A0_4 l0_4.length c0_4] 24 (0, 0)) (by (with_reducible repeat (first | refine blk_drewN ?_ _ | refine blk_drew ?_ | refine blk_alloc ?_ _)); exact BK253.out)) : gb281 ≠ gb253)); have n15_ := Aside0.mk ((by rw [hg]; exact Nat.ne_of_lt (blk_lt (g := gb254) (o := .cells #[.int .i64 a1_0, .int .i64 a1_1, .int .i64 a1_2, .int .i64 a1_3, .int .i64 a1_4, .int .i64 a1_5] 34 (0, 0)) (by (with_reducible repeat (first | refine blk_drewN ?_ _ | refine blk_drew ?_ | refine blk_alloc ?_ _)); exact BK254.out)) : gb254 ≠ gb281)); have n16_ := Aside0.mk ((by rw [hg]; exact Nat.ne_of_gt (blk_lt (g := gb254) (o := .cells #[.int .i64 a1_0, .int .i64 a1_1, .int .i64 a1_2, .int .i64 a1_3, .int .i64 a1_4, .int .i64 a1_5] 34 (0, 0)) (by (with_reducible repeat (first | refine blk_drewN ?_ _ | refine blk_drew ?_ | refine blk_alloc ?_ _)); exact BK254.out)) : gb281 ≠ gb254)); have n17_ := Aside0.mk ((by rw [hg]; exact Nat.ne_of_lt (blk_lt (g := gb268) (o := .cells #[.int .i64 t256, .int .i64 t257, .slice Ao20 t258.length co20, .slice Ao21 t261.length co21, .slice Ao22 t264.length co22] 24 (0, 0)) (by (with_reducible repeat (first | refine blk_drewN ?_ _ | refine blk_drew ?_ | refine blk_alloc ?_ _)); exact BK268.out)) : gb268 ≠ gb281)); have n18_ := Aside0.mk ((by rw [hg]; exact Nat.ne_of_gt (blk_lt (g := gb268) (o := .cells #[.int .i64 t256, .int .i64 t257, .slice Ao20 t258.length co20, .slice Ao21 t261.length co21, .slice Ao22 t264.length co22] 24 (0, 0)) (by (with_reducible repeat (first | refine blk_drewN ?_ _ | refine blk_drew ?_ | refine blk_alloc ?_ _)); exact BK268.out)) : gb281 ≠ gb268)); clear HO260; clear HO263; clear HO266; clear HO274; clear HO277; clear HO280; clear BK253; clear BK254; clear BK268; clear HB; have HO260 := n0_; have HO263 := n1_; have HO266 := n2_; have HO274 := n3_; have HO277 := n4_; have HO280 := n5_; have BK253 := n6_; have BK254 := n7_; have BK268 := n8_; have HB := n9_; have BK281 := n10_; have GW281 := n11_; have GE281 := n12_; have NB253_281 := n13_; have NB281_253 := n14_; have NB254_281 := n15_; have NB281_254 := n16_; have NB268_281 := n17_; have NB281_268 := n18_; clear n0_ n1_ n2_ n3_ n4_ n5_ n6_ n7_ n8_ n9_ n10_ n11_ n12_ n13_ n14_ n15_ n16_ n17_ n18_; clear hb hbox hg; have hnb26 := NB281_253.out; have hnc26 := NB253_281.out; have hnb27 := NB281_254.out; have hnc27 := NB254_281.out; have hnb28 := NB281_268.out; have hnc28 := NB268_281.out; have hcz29_0 : w25.cell? ⟨gb281, 0, none⟩ = some (.int .i64 0) := (blk_cell BK281.out 0).trans rfl; have hcz29_1 : w25.cell? ⟨gb281, 1, none⟩ = some (.int .i64 0) := (blk_cell BK281.out 1).trans rfl; have hcz29_2 : w25.cell? ⟨gb281, 2, none⟩ = some (.slice none 0 0) := (blk_cell BK281.out 2).trans rfl; have hcz29_3 : w25.cell? ⟨gb281, 3, none⟩ = some (.slice none 0 0) := (blk_cell BK281.out 3).trans rfl; have hcz29_4 : w25.cell? ⟨gb281, 4, none⟩ = some (.slice none 0 0) := (blk_cell BK281.out 4).trans rfl; have hfz29_0 := blk_frozen BK281.out 0; have hfz29_1 := blk_frozen BK281.out 1; have hfz29_2 := blk_frozen BK281.out 2; have hfz29_3 := blk_frozen BK281.out 3; have hfz29_4 := blk_frozen BK281.out 4; obtain ⟨Ao30, co30, eo30⟩ := Kd.R_slice HO274.out; subst eo30; obtain ⟨Ao31, co31, eo31⟩ := Kd.R_slice HO277.out; subst eo31; obtain ⟨Ao32, co32, eo32⟩ := Kd.R_slice HO280.out; subst eo32))
   go_loopg [8] k (fun kq v8 w' => ∃ (x8_1 : Int) (x269002_1 : List Int) (x269003_1 : List Int) (x269004_1 : List Int) (x282002_1 : List Int) (x282003_1 : List Int) (x282004_1 : List Int) (u269002 : Value) (u269003 : Value) (u269004 : Value) (u282002 : Value) (u282003 : Value) (u282004 : Value), v8 = .int .i64 x8_1 ∧ Aside0 (cutroomlaw08_MotionMirror.l0 kq x8_1 a0_0 a0_1 l0_2 l0_3 l0_4 a1_0 a1_1 a1_2 a1_3 a1_4 a1_5 t256 t257 x269002_1 x269003_1 x269004_1 t270 t271 x282002_1 x282003_1 x282004_1 = some r) ∧ Aside0 (kq ≤ k) ∧ Aside0 (Kd.R (Kd.int .u8) 5 w' w.heap.size (fun k_ => some k_ ≠ (u269003 : Value).ownBlock ∧ some k_ ≠ (u269004 : Value).ownBlock ∧ some k_ ≠ (u282002 : Value).ownBlock ∧ some k_ ≠ (u282003 : Value).ownBlock ∧ some k_ ≠ (u282004 : Value).ownBlock) u269002 x269002_1) ∧ Aside0 (Kd.R (Kd.int .u8) 5 w' w.heap.size (fun k_ => some k_ ≠ (u269002 : Value).ownBlock ∧ some k_ ≠ (u269004 : Value).ownBlock ∧ some k_ ≠ (u282002 : Value).ownBlock ∧ some k_ ≠ (u282003 : Value).ownBlock ∧ some k_ ≠ (u282004 : Value).ownBlock) u269003 x269003_1) ∧ Aside0 (Kd.R (Kd.int .u8) 5 w' w.heap.size (fun k_ => some k_ ≠ (u269002 : Value).ownBlock ∧ some k_ ≠ (u269003 : Value).ownBlock ∧ some k_ ≠ (u282002 : Value).ownBlock ∧ some k_ ≠ (u282003 : Value).ownBlock ∧ some k_ ≠ (u282004 : Value).ownBlock) u269004 x269004_1) ∧ Aside0 (Kd.R (Kd.int .u8) 5 w' w.heap.size (fun k_ => some k_ ≠ (u269002 : Value).ownBlock ∧ some k_ ≠ (u269003 : Value).ownBlock ∧ some k_ ≠ (u269004 : Value).ownBlock ∧ some k_ ≠ (u282003 : Value).ownBlock ∧ some k_ ≠ (u282004 : Value).ownBlock) u282002 x282002_1) ∧ Aside0 (Kd.R (Kd.int .u8) 5 w' w.heap.size (fun k_ => some k_ ≠ (u269002 : Value).ownBlock ∧ some k_ ≠ (u269003 : Value).ownBlock ∧ some k_ ≠ (u269004 : Value).ownBlock ∧ some k_ ≠ (u282002 : Value).ownBlock ∧ some k_ ≠ (u282004 : Value).ownBlock) u282003 x282003_1) ∧ Aside0 (Kd.R (Kd.int .u8) 5 w' w.heap.size (fun k_ => some k_ ≠ (u269002 : Value).ownBlock ∧ some k_ ≠ (u269003 : Value).ownBlock ∧ some k_ ≠ (u269004 : Value).ownBlock ∧ some k_ ≠ (u282002 : Value).ownBlock ∧ some k_ ≠ (u282003 : Value).ownBlock) u282004 x282004_1) ∧ Aside0 (w'.heap[gb253]? = some (.cells #[.int .i64 a0_0, .int .i64 a0_1, (.slice A0_2 l0_2.length c0_2), (.slice A0_3 l0_3.length c0_3), (.slice A0_4 l0_4.length c0_4)] 24 (0, 0))) ∧ Aside0 (w'.heap[gb254]? = some (.cells #[.int .i64 a1_0, .int .i64 a1_1, .int .i64 a1_2, .int .i64 a1_3, .int .i64 a1_4, .int .i64 a1_5] 34 (0, 0))) ∧ Aside0 (w'.heap[gb268]? = some (.cells #[.int .i64 t256, .int .i64 t257, u269002, u269003, u269004] 24 (0, 0))) ∧ Aside0 (w'.heap[gb281]? = some (.cells #[.int .i64 t270, .int .i64 t271, u282002, u282003, u282004] 24 (0, 0))) ∧ Aside0 (Below w.heap.size w w'))
   case atStart => exact ⟨(0), (t258), (t261), (t264), (t272), (t275), (t278), (.slice Ao20 t258.length co20), (.slice Ao21 t261.length co21), (.slice Ao22 t264.length co22), (.slice Ao30 t272.length co30), (.slice Ao31 t275.length co31), (.slice Ao32 t278.length co32), (by first | rfl | (simp; done) | (simp [*]; done)), H', ⟨Nat.le_refl _⟩, ⟨by (with_reducible repeat (first | apply Kd.R_alloc | apply Kd.R_drewN | apply Kd.R_drew)); exact Kd.R_mono (Kd.R_far (p := ⟨gb281, 4, none⟩) (Kd.R_far (p := ⟨gb281, 3, none⟩) (Kd.R_far (p := ⟨gb281, 2, none⟩) (Kd.R_far (p := ⟨gb281, 1, none⟩) (Kd.R_far (p := ⟨gb281, 0, none⟩) (Kd.R_types HO260.out BK281.out (by decide)) (fun _ hk => hk.2) (.int .i64 t270)) (fun _ hk => hk.2) (.int .i64 t271)) (fun _ hk => hk.2) (.slice Ao30 t272.length co30)) (fun _ hk => hk.2) (.slice Ao31 t275.length co31)) (fun _ hk => hk.2) (.slice Ao32 t278.length co32)) (fun _ hk => ⟨hk.1.1.1.1.1, ⟨hk.1.1.1.1.2, ⟨hk.1.1.1.2, ⟨hk.1.1.2, hk.1.2⟩⟩⟩⟩)⟩, ⟨by (with_reducible repeat (first | apply Kd.R_alloc | apply Kd.R_drewN | apply Kd.R_drew)); exact Kd.R_mono (Kd.R_far (p := ⟨gb281, 4, none⟩) (Kd.R_far (p := ⟨gb281, 3, none⟩) (Kd.R_far (p := ⟨gb281, 2, none⟩) (Kd.R_far (p := ⟨gb281, 1, none⟩) (Kd.R_far (p := ⟨gb281, 0, none⟩) (Kd.R_types HO263.out BK281.out (by decide)) (fun _ hk => hk.2) (.int .i64 t270)) (fun _ hk => hk.2) (.int .i64 t271)) (fun _ hk => hk.2) (.slice Ao30 t272.length co30)) (fun _ hk => hk.2) (.slice Ao31 t275.length co31)) (fun _ hk => hk.2) (.slice Ao32 t278.length co32)) (fun _ hk => ⟨hk.1.1.1.1.1, ⟨hk.1.1.1.1.2, ⟨hk.1.1.1.2, ⟨hk.1.1.2, hk.1.2⟩⟩⟩⟩)⟩, ⟨by (with_reducible repeat (first | apply Kd.R_alloc | apply Kd.R_drewN | apply Kd.R_drew)); exact Kd.R_mono (Kd.R_far (p := ⟨gb281, 4, none⟩) (Kd.R_far (p := ⟨gb281, 3, none⟩) (Kd.R_far (p := ⟨gb281, 2, none⟩) (Kd.R_far (p := ⟨gb281, 1, none⟩) (Kd.R_far (p := ⟨gb281, 0, none⟩) (Kd.R_types HO266.out BK281.out (by decide)) (fun _ hk => hk.2) (.int .i64 t270)) (fun _ hk => hk.2) (.int .i64 t271)) (fun _ hk => hk.2) (.slice Ao30 t272.length co30)) (fun _ hk => hk.2) (.slice Ao31 t275.length co31)) (fun _ hk => hk.2) (.slice Ao32 t278.length co32)) (fun _ hk => ⟨hk.1.1.1.1.1, ⟨hk.1.1.1.1.2, ⟨hk.1.1.1.2, ⟨hk.1.1.2, hk.1.2⟩⟩⟩⟩)⟩, ⟨by (with_reducible repeat (first | apply Kd.R_alloc | apply Kd.R_drewN | apply Kd.R_drew)); exact Kd.R_mono (Kd.R_far (p := ⟨gb281, 4, none⟩) (Kd.R_far (p := ⟨gb281, 3, none⟩) (Kd.R_far (p := ⟨gb281, 2, none⟩) (Kd.R_far (p := ⟨gb281, 1, none⟩) (Kd.R_far (p := ⟨gb281, 0, none⟩) (Kd.R_types HO274.out BK281.out (by decide)) (fun _ hk => hk.2) (.int .i64 t270)) (fun _ hk => hk.2) (.int .i64 t271)) (fun _ hk => hk.2) (.slice Ao30 t272.length co30)) (fun _ hk => hk.2) (.slice Ao31 t275.length co31)) (fun _ hk => hk.2) (.slice Ao32 t278.length co32)) (fun _ hk => ⟨hk.1.1.1.2, ⟨hk.1.1.2, ⟨hk.1.2, ⟨hk.1.1.1.1.1, hk.1.1.1.1.2⟩⟩⟩⟩)⟩, ⟨by (with_reducible repeat (first | apply Kd.R_alloc | apply Kd.R_drewN | apply Kd.R_drew)); exact Kd.R_mono (Kd.R_far (p := ⟨gb281, 4, none⟩) (Kd.R_far (p := ⟨gb281, 3, none⟩) (Kd.R_far (p := ⟨gb281, 2, none⟩) (Kd.R_far (p := ⟨gb281, 1, none⟩) (Kd.R_far (p := ⟨gb281, 0, none⟩) (Kd.R_types HO277.out BK281.out (by decide)) (fun _ hk => hk.2) (.int .i64 t270)) (fun _ hk => hk.2) (.int .i64 t271)) (fun _ hk => hk.2) (.slice Ao30 t272.length co30)) (fun _ hk => hk.2) (.slice Ao31 t275.length co31)) (fun _ hk => hk.2) (.slice Ao32 t278.length co32)) (fun _ hk => ⟨hk.1.1.1.2, ⟨hk.1.1.2, ⟨hk.1.2, ⟨hk.1.1.1.1.1, hk.1.1.1.1.2⟩⟩⟩⟩)⟩, ⟨by (with_reducible repeat (first | apply Kd.R_alloc | apply Kd.R_drewN | apply Kd.R_drew)); exact Kd.R_mono (Kd.R_far (p := ⟨gb281, 4, none⟩) (Kd.R_far (p := ⟨gb281, 3, none⟩) (Kd.R_far (p := ⟨gb281, 2, none⟩) (Kd.R_far (p := ⟨gb281, 1, none⟩) (Kd.R_far (p := ⟨gb281, 0, none⟩) (Kd.R_types HO280.out BK281.out (by decide)) (fun _ hk => hk.2) (.int .i64 t270)) (fun _ hk => hk.2) (.int .i64 t271)) (fun _ hk => hk.2) (.slice Ao30 t272.length co30)) (fun _ hk => hk.2) (.slice Ao31 t275.length co31)) (fun _ hk => hk.2) (.slice Ao32 t278.length co32)) (fun _ hk => ⟨hk.1.1.1.2, ⟨hk.1.1.2, ⟨hk.1.2, ⟨hk.1.1.1.1.1, hk.1.1.1.1.2⟩⟩⟩⟩)⟩, ⟨by (with_reducible repeat (first | refine blk_drewN ?_ _ | refine blk_drew ?_ | refine blk_alloc ?_ _)); refine blk_far ?_ NB253_281.out _; (with_reducible repeat (first | refine blk_drewN ?_ _ | refine blk_drew ?_ | refine blk_alloc ?_ _)); refine blk_far ?_ NB253_281.out _; (with_reducible repeat (first | refine blk_drewN ?_ _ | refine blk_drew ?_ | refine blk_alloc ?_ _)); refine blk_far ?_ NB253_281.out _; (with_reducible repeat (first | refine blk_drewN ?_ _ | refine blk_drew ?_ | refine blk_alloc ?_ _)); refine blk_far ?_ NB253_281.out _; (with_reducible repeat (first | refine blk_drewN ?_ _ | refine blk_drew ?_ | refine blk_alloc ?_ _)); refine blk_far ?_ NB253_281.out _; (with_reducible repeat (first | refine blk_drewN ?_ _ | refine blk_drew ?_ | refine blk_alloc ?_ _)); exact BK253.out⟩, ⟨by (with_reducible repeat (first | refine blk_drewN ?_ _ | refine blk_drew ?_ | refine blk_alloc ?_ _)); refine blk_far ?_ NB254_281.out _; (with_reducible repeat (first | refine blk_drewN ?_ _ | refine blk_drew ?_ | refine blk_alloc ?_ _)); refine blk_far ?_ NB254_281.out _; (with_reducible repeat (first | refine blk_drewN ?_ _ | refine blk_drew ?_ | refine blk_alloc ?_ _)); refine blk_far ?_ NB254_281.out _; (with_reducible repeat (first | refine blk_drewN ?_ _ | refine blk_drew ?_ | refine blk_alloc ?_ _)); refine blk_far ?_ NB254_281.out _; (with_reducible repeat (first | refine blk_drewN ?_ _ | refine blk_drew ?_ | refine blk_alloc ?_ _)); refine blk_far ?_ NB254_281.out _; (with_reducible repeat (first | refine blk_drewN ?_ _ | refine blk_drew ?_ | refine blk_alloc ?_ _)); exact BK254.out⟩, ⟨by (with_reducible repeat (first | refine blk_drewN ?_ _ | refine blk_drew ?_ | refine blk_alloc ?_ _)); refine blk_far ?_ NB268_281.out _; (with_reducible repeat (first | refine blk_drewN ?_ _ | refine blk_drew ?_ | refine blk_alloc ?_ _)); refine blk_far ?_ NB268_281.out _; (with_reducible repeat (first | refine blk_drewN ?_ _ | refine blk_drew ?_ | refine blk_alloc ?_ _)); refine blk_far ?_ NB268_281.out _; (with_reducible repeat (first | refine blk_drewN ?_ _ | refine blk_drew ?_ | refine blk_alloc ?_ _)); refine blk_far ?_ NB268_281.out _; (with_reducible repeat (first | refine blk_drewN ?_ _ | refine blk_drew ?_ | refine blk_alloc ?_ _)); refine blk_far ?_ NB268_281.out _; (with_reducible repeat (first | refine blk_drewN ?_ _ | refine blk_drew ?_ | refine blk_alloc ?_ _)); exact BK268.out⟩, ⟨by (with_reducible repeat (first | refine blk_drewN ?_ _ | refine blk_drew ?_ | refine blk_alloc ?_ _)); refine blk_put (cs := #[.int .i64 t270, .int .i64 t271, .slice Ao30 t272.length co30, .slice Ao31 t275.length co31, .slice none 0 0]) ?_ 4 _ rfl; (with_reducible repeat (first | refine blk_drewN ?_ _ | refine blk_drew ?_ | refine blk_alloc ?_ _)); refine blk_put (cs := #[.int .i64 t270, .int .i64 t271, .slice Ao30 t272.length co30, .slice none 0 0, .slice none 0 0]) ?_ 3 _ rfl; (with_reducible repeat (first | refine blk_drewN ?_ _ | refine blk_drew ?_ | refine blk_alloc ?_ _)); refine blk_put (cs := #[.int .i64 t270, .int .i64 t271, .slice none 0 0, .slice none 0 0, .slice none 0 0]) ?_ 2 _ rfl; (with_reducible repeat (first | refine blk_drewN ?_ _ | refine blk_drew ?_ | refine blk_alloc ?_ _)); refine blk_put (cs := #[.int .i64 t270, .int .i64 0, .slice none 0 0, .slice none 0 0, .slice none 0 0]) ?_ 1 _ rfl; (with_reducible repeat (first | refine blk_drewN ?_ _ | refine blk_drew ?_ | refine blk_alloc ?_ _)); refine blk_put (cs := #[.int .i64 0, .int .i64 0, .slice none 0 0, .slice none 0 0, .slice none 0 0]) ?_ 0 _ rfl; (with_reducible repeat (first | refine blk_drewN ?_ _ | refine blk_drew ?_ | refine blk_alloc ?_ _)); exact BK281.out⟩, ⟨by repeat (first | (with_reducible first | exact HB.out | apply below_alloc | apply pw_below_drewN | apply below_drew1 | refine below_set ?_ GE253.out | refine below_set ?_ GE254.out | refine below_set ?_ GE268.out | refine below_set ?_ GE281.out) | exact HB.out)⟩⟩
   case round =>
    clear H'
    try clear c1
    try clear c2
    try clear p2
    try clear c4
    try clear c6
    try clear c6b0
    try clear c6b1
    try clear c7
    try clear c10
    try clear c15
    try clear c17
    try clear c18
    try clear c21
    try clear c26
    try clear c27
    try clear c28
    try clear hcz11_0
    try clear hcz11_1
    try clear hcz11_2
    try clear hcz11_3
    try clear hcz11_4
    try clear hcz13_0
    try clear hcz13_1
    try clear hcz13_2
    try clear hcz13_3
    try clear hcz13_4
    try clear hcz14_0
    try clear hcz14_1
    try clear hcz14_2
    try clear hcz14_3
    try clear hcz14_4
    try clear hcz14_5
    try clear hcz19_0
    try clear hcz19_1
    try clear hcz19_2
    try clear hcz19_3
    try clear hcz19_4
    try clear hcz23_0
    try clear hcz23_1
    try clear hcz23_2
    try clear hcz23_3
    try clear hcz23_4
    try clear hcz29_0
    try clear hcz29_1
    try clear hcz29_2
    try clear hcz29_3
    try clear hcz29_4
    try clear hfz11_0
    try clear hfz11_1
    try clear hfz11_2
    try clear hfz11_3
    try clear hfz11_4
    try clear hfz13_0
    try clear hfz13_1
    try clear hfz13_2
    try clear hfz13_3
    try clear hfz13_4
    try clear hfz14_0
    try clear hfz14_1
    try clear hfz14_2
    try clear hfz14_3
    try clear hfz14_4
    try clear hfz14_5
    try clear hfz19_0
    try clear hfz19_1
    try clear hfz19_2
    try clear hfz19_3
    try clear hfz19_4
    try clear hfz23_0
    try clear hfz23_1
    try clear hfz23_2
    try clear hfz23_3
    try clear hfz23_4
    try clear hfz29_0
    try clear hfz29_1
    try clear hfz29_2
    try clear hfz29_3
    try clear hfz29_4
    obtain ⟨x8_1, x269002_1, x269003_1, x269004_1, x282002_1, x282003_1, x282004_1, u269002, u269003, u269004, u282002, u282003, u282004, rfl, HA, HK1, HO_269002, HO_269003, HO_269004, HO_282002, HO_282003, HO_282004, BK253, BK254, BK268, BK281, HB⟩ := hrel
    cases gk with
    | zero => exact absurd HA.out (by simp [cutroomlaw08_MotionMirror.l0])
    | succ k1 =>
     have H := HA.out
     clear HA
     simp only [cutroomlaw08_MotionMirror.l0] at H
     by_cases c33 : x8_1 < (l0_2.length : Int)
     ·
      rw [if_pos c33] at H
      have c33b0 : decide (x8_1 < (l0_2.length : Int)) = true := decide_eq_true c33
      clear c33
      by_cases c34 : a0_0 = 0
      ·
       rw [if_pos c34] at H
       exact absurd H (by simp)
      ·
       rw [if_neg c34] at H
       have c34b0 : (a0_0 == 0) = false := beq_eq_false_iff_ne.mpr c34
       have c34b1 : (a0_0 != 0) = true := bne_iff_ne.mpr c34
       by_cases c35 : 0 ≤ x8_1
       ·
        rw [if_pos c35] at H
        have c35b0 : decide (0 ≤ x8_1) = true := decide_eq_true c35
        clear c35
        obtain ⟨ji36, hji36⟩ : ∃ j_ : Int, (wrap64 ((wrap64 ((wrap64 ((wrap64 ((wrap64 (Int.tdiv x8_1 a0_0)) * a0_0)) + a0_0)) - 1)) - (Int.tmod x8_1 a0_0))) = j_ := ⟨_, rfl⟩
        replace H : (if 0 ≤ (ji36) then (if (ji36) < (x282002_1.length : Int) then (cutroomlaw08_MotionMirror.l0 k1 (wrap64 (x8_1 + 1)) a0_0 a0_1 l0_2 l0_3 l0_4 a1_0 a1_1 a1_2 a1_3 a1_4 a1_5 t256 t257 x269002_1 x269003_1 x269004_1 t270 t271 (x282002_1.set ((ji36) : Int).toNat (rd l0_2 x8_1)) x282003_1 x282004_1) else (none)) else (none)) = some r := by first | (rw [hji36] at H; exact H) | (simp only [hji36] at H ⊢; exact H)
        have hji36w : (IntKind.i64.wrap ((wrap64 ((wrap64 ((wrap64 ((wrap64 (Int.tdiv x8_1 a0_0)) * a0_0)) + a0_0)) - 1)) - (Int.tmod x8_1 a0_0))) = ji36 := (i64_w _).trans hji36
        by_cases c37 : 0 ≤ (ji36)
        ·
         rw [if_pos c37] at H
         have c37b0 : decide (0 ≤ (ji36)) = true := decide_eq_true c37
         clear c37
         by_cases c38 : (ji36) < (x282002_1.length : Int)
         ·
          rw [if_pos c38] at H
          have c38b0 : decide ((ji36) < (x282002_1.length : Int)) = true := decide_eq_true c38
          clear c38
          obtain ⟨y283, hy283⟩ : ∃ y_ : List Int, y_ = (x282002_1.set ((ji36) : Int).toNat (rd l0_2 x8_1)) := ⟨_, rfl⟩
          replace H : (cutroomlaw08_MotionMirror.l0 k1 (wrap64 (x8_1 + 1)) a0_0 a0_1 l0_2 l0_3 l0_4 a1_0 a1_1 a1_2 a1_3 a1_4 a1_5 t256 t257 x269002_1 x269003_1 x269004_1 t270 t271 y283 x282003_1 x282004_1) = some r := by first | (rw [hy283]; with_reducible exact H) | (have H2_ := (Option.bind_some _ _).symm.trans H; rw [hy283]; with_reducible exact H2_) | (have H2_ := (Option.bind_some _ _).symm.trans H; with_reducible exact H2_) | with_reducible exact H | (rw [hy283]; exact H) | exact H
          have Ny283 := Aside0.mk hy283
          clear hy283
          have H' := Aside0.mk H
          clear H
          have hnb40 := NB253_254.out
          have hnc40 := NB254_253.out
          have hnb41 := NB253_268.out
          have hnc41 := NB268_253.out
          have hnb42 := NB253_281.out
          have hnc42 := NB281_253.out
          have hcz43_0 : wr.cell? ⟨gb253, 0, none⟩ = some (.int .i64 a0_0) := (blk_cell BK253.out 0).trans rfl
          have hcz43_1 : wr.cell? ⟨gb253, 1, none⟩ = some (.int .i64 a0_1) := (blk_cell BK253.out 1).trans rfl
          have hcz43_2 : wr.cell? ⟨gb253, 2, none⟩ = some (.slice A0_2 l0_2.length c0_2) := (blk_cell BK253.out 2).trans rfl
          have hcz43_3 : wr.cell? ⟨gb253, 3, none⟩ = some (.slice A0_3 l0_3.length c0_3) := (blk_cell BK253.out 3).trans rfl
          have hcz43_4 : wr.cell? ⟨gb253, 4, none⟩ = some (.slice A0_4 l0_4.length c0_4) := (blk_cell BK253.out 4).trans rfl
          have hfz43_0 := blk_frozen BK253.out 0
          have hfz43_1 := blk_frozen BK253.out 1
          have hfz43_2 := blk_frozen BK253.out 2
          have hfz43_3 := blk_frozen BK253.out 3
          have hfz43_4 := blk_frozen BK253.out 4
          try go_wp2
          have n0_ := Aside0.mk (Kd.R_drew HO_269002.out)
          have n1_ := Aside0.mk (Kd.R_drew HO_269003.out)
          have n2_ := Aside0.mk (Kd.R_drew HO_269004.out)
          have n3_ := Aside0.mk (Kd.R_drew HO_282002.out)
          have n4_ := Aside0.mk (Kd.R_drew HO_282003.out)
          have n5_ := Aside0.mk (Kd.R_drew HO_282004.out)
          have n6_ := Aside0.mk (blk_drew BK253.out)
          have n7_ := Aside0.mk (blk_drew BK254.out)
          have n8_ := Aside0.mk (blk_drew BK268.out)
          have n9_ := Aside0.mk (blk_drew BK281.out)
          have n10_ := Aside0.mk (below_drew1 HB.out)
          clear HO_269002
          clear HO_269003
          clear HO_269004
          clear HO_282002
          clear HO_282003
          clear HO_282004
          clear BK253
          clear BK254
          clear BK268
          clear BK281
          clear HB
          have HO_269002 := n0_
          have HO_269003 := n1_
          have HO_269004 := n2_
          have HO_282002 := n3_
          have HO_282003 := n4_
          have HO_282004 := n5_
          have BK253 := n6_
          have BK254 := n7_
          have BK268 := n8_
          have BK281 := n9_
          have HB := n10_
          clear n0_ n1_ n2_ n3_ n4_ n5_ n6_ n7_ n8_ n9_ n10_
          have p282 : 0 ≤ (x8_1 : Int) := of_decide_eq_true (by first | (with_reducible assumption) | assumption)
          have q282 : x8_1 < (l0_2.length : Int) := of_decide_eq_true (by first | (with_reducible assumption) | assumption)
          obtain ⟨ad282, e282, hx282_0⟩ := Kd.at_int HR0_2.out x8_1 p282 q282
          have hw282_0 := hx282_0
          cases e282
          replace hx282_0 := (HB.out.cell (World.block_lt_of_cell? w _ hx282_0)).trans hx282_0
          replace p282 := eq_true p282
          replace q282 := eq_true q282
          have p39 : 0 ≤ ((ji36) : Int) := of_decide_eq_true (by first | (with_reducible assumption) | assumption)
          have q39 : ((ji36) : Int) < ((x282002_1.length : Int) : Int) := of_decide_eq_true (by first | (with_reducible assumption) | assumption)
          obtain ⟨go39, co39, eo39, gb39, gl39, cl39, HG39⟩ := Kd.R_form HO_282002.out (by omega)
          (first | cases eo39 | (injection eo39 with ea_ en_ ec_; (first | subst ea_ | (injection ea_ with ea_; subst ea_)); subst ec_; clear en_))
          have GB39 := Aside0.mk gb39
          have GG39 := Aside0.mk HG39
          clear gb39 gl39 HG39
          obtain ⟨hx39_0, hf39_0⟩ := Kd.R_celln 0 HO_282002.out ((ji36) : Int) p39 q39
          replace p39 := eq_true p39
          replace q39 := eq_true q39
          have HP45 := Kd.R_putn HO_282002.out ((ji36) : Int) (rd l0_2 x8_1)
          rw [← Ny283.out] at HP45
          have HQ45 := Aside0.mk HP45
          clear HP45
          refine start_ (n := 25) (S := fun w' => w'.cell? ⟨gb281, 0, none⟩ = some (.int .i64 t270) ∧ w'.cell? ⟨gb281, 1, none⟩ = some (.int .i64 t271) ∧ w'.cell? ⟨gb281, 2, none⟩ = some (.slice (some ⟨go39, 0, none⟩) x282002_1.length co39) ∧ w'.cell? ⟨gb281, 3, none⟩ = some (u282003) ∧ w'.cell? ⟨gb281, 4, none⟩ = some (u282004) ∧ w'.cell? ⟨gb253, 0, none⟩ = some (.int .i64 a0_0) ∧ w'.cell? ⟨gb253, 1, none⟩ = some (.int .i64 a0_1) ∧ w'.cell? ⟨gb253, 2, none⟩ = some (.slice (some ad282) l0_2.length c0_2) ∧ w'.cell? ⟨gb253, 3, none⟩ = some (.slice A0_3 l0_3.length c0_3) ∧ w'.cell? ⟨gb253, 4, none⟩ = some (.slice A0_4 l0_4.length c0_4) ∧ w'.cell? (ad282.add (x8_1).toNat) = some (.int .u8 (rd l0_2 x8_1))) (ds := [24]) #[false, false, false, false, false, false, false, false, false, false, false, false, false, false, false, false, false, false, false, false, false, false, false, false, false] (by kernel_rfl) rfl rfl ⟨(blk_cell BK281.out 0).trans rfl, (blk_cell BK281.out 1).trans rfl, (blk_cell BK281.out 2).trans rfl, (blk_cell BK281.out 3).trans rfl, (blk_cell BK281.out 4).trans rfl, (blk_cell BK253.out 0).trans rfl, (blk_cell BK253.out 1).trans rfl, (blk_cell BK253.out 2).trans rfl, (blk_cell BK253.out 3).trans rfl, (blk_cell BK253.out 4).trans rfl, ((HB.out.cell (World.block_lt_of_cell? w _ hw282_0)).trans hw282_0)⟩ (fun hHeld => ?_); refine with_tabW cutroomlaw08_MotionMirror.tab10 cutroomlaw08_MotionMirror.bits10 (fun HT_ HW_ => ?_)
          generalize wr.drew = w44 at HO_269002 HO_269003 HO_269004 HO_282002 HO_282003 HO_282004 BK253 BK254 BK268 BK281 HB GG39 HQ45 hf39_0 hx282_0 hx39_0 hHeld ⊢
          refine pure_ (i := 0) (N := some 42) (v := ?_) (a' := ?_) #[true, false, false, false, false, false, false, false, false, false, false, false, false, false, false, false, false, false, false, false, false, false, false, false, false] rfl rfl (any_of HT_.out (by kernel_rfl)) (fun _ _ _ h => h) (Or.inl ⟨by rfl, ?_⟩) ?_ ?_
          rotate_left
          ·
           intro w'
           go_simp
           with_reducible rfl
          rotate_left
          ·
           simp only [Act.put, List.setIfInBounds_toArray, List.set_cons_zero, List.set_cons_succ, i64_w, i32_w]
           rfl
          refine pure_ (i := 2) (N := some 44) (v := ?_) (a' := ?_) #[true, false, true, false, false, false, false, false, false, false, false, false, false, false, false, false, false, false, false, false, false, false, false, false, false] rfl rfl (any_of HT_.out (by kernel_rfl)) (fun _ _ _ h => h) (Or.inl ⟨by rfl, ?_⟩) ?_ ?_
          rotate_left
          ·
           intro w'
           go_simp
           with_reducible rfl
          rotate_left
          ·
           simp only [Act.put, List.setIfInBounds_toArray, List.set_cons_zero, List.set_cons_succ, i64_w, i32_w]
           rfl
          refine pure_ (i := 3) (N := some 45) (v := ?_) (a' := ?_) #[true, false, true, true, false, false, false, false, false, false, false, false, false, false, false, false, false, false, false, false, false, false, false, false, false] rfl rfl (any_of HT_.out (by kernel_rfl)) (fun _ _ _ h => h) (Or.inl ⟨by rfl, ?_⟩) ?_ ?_
          rotate_left
          ·
           intro w'
           go_simp
           with_reducible rfl
          rotate_left
          ·
           simp only [Act.put, List.setIfInBounds_toArray, List.set_cons_zero, List.set_cons_succ, i64_w, i32_w]
           rfl
          refine pure_ (i := 6) (N := some 48) (v := ?_) (a' := ?_) #[true, false, true, true, false, false, true, false, false, false, false, false, false, false, false, false, false, false, false, false, false, false, false, false, false] rfl rfl (any_of HT_.out (by kernel_rfl)) (fun _ _ _ h => h) (Or.inl ⟨by rfl, ?_⟩) ?_ ?_
          rotate_left
          ·
           intro w'
           go_simp
           with_reducible rfl
          rotate_left
          ·
           simp only [Act.put, List.setIfInBounds_toArray, List.set_cons_zero, List.set_cons_succ, i64_w, i32_w]
           rfl
          refine pure_ (i := 9) (N := some 51) (v := ?_) (a' := ?_) #[true, false, true, true, false, false, true, false, false, true, false, false, false, false, false, false, false, false, false, false, false, false, false, false, false] rfl rfl (any_of HT_.out (by kernel_rfl)) (fun _ _ _ h => h) (Or.inl ⟨by rfl, ?_⟩) ?_ ?_
          rotate_left
          ·
           intro w'
           go_simp
           with_reducible rfl
          rotate_left
          ·
           simp only [Act.put, List.setIfInBounds_toArray, List.set_cons_zero, List.set_cons_succ, i64_w, i32_w]
           rfl
          refine pure_ (i := 13) (N := some 55) (v := ?_) (a' := ?_) #[true, false, true, true, false, false, true, false, false, true, false, false, false, true, false, false, false, false, false, false, false, false, false, false, false] rfl rfl (any_of HT_.out (by kernel_rfl)) (fun _ _ _ h => h) (Or.inl ⟨by rfl, ?_⟩) ?_ ?_
          rotate_left
          ·
           intro w'
           go_simp
           with_reducible rfl
          rotate_left
          ·
           simp only [Act.put, List.setIfInBounds_toArray, List.set_cons_zero, List.set_cons_succ, i64_w, i32_w]
           rfl
          refine pure_ (i := 14) (N := some 56) (v := ?_) (a' := ?_) #[true, false, true, true, false, false, true, false, false, true, false, false, false, true, true, false, false, false, false, false, false, false, false, false, false] rfl rfl (any_of HT_.out (by kernel_rfl)) (fun _ _ _ h => h) (Or.inl ⟨by rfl, ?_⟩) ?_ ?_
          rotate_left
          ·
           intro w'
           go_simp
           with_reducible rfl
          rotate_left
          ·
           simp only [Act.put, List.setIfInBounds_toArray, List.set_cons_zero, List.set_cons_succ, i64_w, i32_w]
           rfl
          refine pure_ (i := 18) (N := some 60) (v := ?_) (a' := ?_) #[true, false, true, true, false, false, true, false, false, true, false, false, false, true, true, false, false, false, true, false, false, false, false, false, false] rfl rfl (any_of HT_.out (by kernel_rfl)) (fun _ _ _ h => h) (Or.inl ⟨by rfl, ?_⟩) ?_ ?_
          rotate_left
          ·
           intro w'
           go_simp
           with_reducible rfl
          rotate_left
          ·
           simp only [Act.put, List.setIfInBounds_toArray, List.set_cons_zero, List.set_cons_succ, i64_w, i32_w]
           rfl
          refine pure_ (i := 20) (N := some 62) (v := ?_) (a' := ?_) #[true, false, true, true, false, false, true, false, false, true, false, false, false, true, true, false, false, false, true, false, true, false, false, false, false] rfl rfl (any_of HT_.out (by kernel_rfl)) (fun _ _ _ h => h) (Or.inl ⟨by rfl, ?_⟩) ?_ ?_
          rotate_left
          ·
           intro w'
           go_simp
           with_reducible rfl
          rotate_left
          ·
           simp only [Act.put, List.setIfInBounds_toArray, List.set_cons_zero, List.set_cons_succ, i64_w, i32_w]
           rfl
          refine take_ (i := 1) (N := some 43) (v := ?_) (a' := ?_) #[true, true, true, true, false, false, true, false, false, true, false, false, false, true, true, false, false, false, true, false, true, false, false, false, false] rfl rfl (take_ofW HT_.out HW_.out (by kernel_rfl)) (fun _ _ _ h => h) (Or.inl ⟨by rfl, ?_⟩) hHeld ?_ ?_
          rotate_left
          ·
           rintro w' ⟨s0, s1, s2, s3, s4, s5, s6, s7, s8, s9, s10⟩
           go_simp
           with_reducible rfl
          rotate_left
          ·
           simp only [Act.put, List.setIfInBounds_toArray, List.set_cons_zero, List.set_cons_succ, i64_w, i32_w]
           rfl
          refine take_ (i := 4) (N := some 46) (v := ?_) (a' := ?_) #[true, true, true, true, true, false, true, false, false, true, false, false, false, true, true, false, false, false, true, false, true, false, false, false, false] rfl rfl (take_ofW HT_.out HW_.out (by kernel_rfl)) (fun _ _ _ h => h) (Or.inl ⟨by rfl, ?_⟩) hHeld ?_ ?_
          rotate_left
          ·
           rintro w' ⟨s0, s1, s2, s3, s4, s5, s6, s7, s8, s9, s10⟩
           go_simp
           with_reducible rfl
          rotate_left
          ·
           simp only [Act.put, List.setIfInBounds_toArray, List.set_cons_zero, List.set_cons_succ, i64_w, i32_w]
           rfl
          refine pure_ (i := 5) (N := some 47) (v := ?_) (a' := ?_) #[true, true, true, true, true, true, true, false, false, true, false, false, false, true, true, false, false, false, true, false, true, false, false, false, false] rfl rfl (any_of HT_.out (by kernel_rfl)) (fun _ _ _ h => h) (Or.inl ⟨by rfl, ?_⟩) ?_ ?_
          rotate_left
          ·
           intro w'
           go_simp
           with_reducible rfl
          rotate_left
          ·
           simp only [Act.put, List.setIfInBounds_toArray, List.set_cons_zero, List.set_cons_succ, i64_w, i32_w]
           rfl
          refine take_ (i := 7) (N := some 49) (v := ?_) (a' := ?_) #[true, true, true, true, true, true, true, true, false, true, false, false, false, true, true, false, false, false, true, false, true, false, false, false, false] rfl rfl (take_ofW HT_.out HW_.out (by kernel_rfl)) (fun _ _ _ h => h) (Or.inl ⟨by rfl, ?_⟩) hHeld ?_ ?_
          rotate_left
          ·
           rintro w' ⟨s0, s1, s2, s3, s4, s5, s6, s7, s8, s9, s10⟩
           go_simp
           with_reducible rfl
          rotate_left
          ·
           simp only [Act.put, List.setIfInBounds_toArray, List.set_cons_zero, List.set_cons_succ, i64_w, i32_w]
           rfl
          refine pure_ (i := 8) (N := some 50) (v := ?_) (a' := ?_) #[true, true, true, true, true, true, true, true, true, true, false, false, false, true, true, false, false, false, true, false, true, false, false, false, false] rfl rfl (any_of HT_.out (by kernel_rfl)) (fun _ _ _ h => h) (Or.inl ⟨by rfl, ?_⟩) ?_ ?_
          rotate_left
          ·
           intro w'
           go_simp
           with_reducible rfl
          rotate_left
          ·
           simp only [Act.put, List.setIfInBounds_toArray, List.set_cons_zero, List.set_cons_succ, i64_w, i32_w]
           rfl
          refine take_ (i := 10) (N := some 52) (v := ?_) (a' := ?_) #[true, true, true, true, true, true, true, true, true, true, true, false, false, true, true, false, false, false, true, false, true, false, false, false, false] rfl rfl (take_ofW HT_.out HW_.out (by kernel_rfl)) (fun _ _ _ h => h) (Or.inl ⟨by rfl, ?_⟩) hHeld ?_ ?_
          rotate_left
          ·
           rintro w' ⟨s0, s1, s2, s3, s4, s5, s6, s7, s8, s9, s10⟩
           go_simp
           with_reducible rfl
          rotate_left
          ·
           simp only [Act.put, List.setIfInBounds_toArray, List.set_cons_zero, List.set_cons_succ, i64_w, i32_w]
           rfl
          refine pure_ (i := 11) (N := some 53) (v := ?_) (a' := ?_) #[true, true, true, true, true, true, true, true, true, true, true, true, false, true, true, false, false, false, true, false, true, false, false, false, false] rfl rfl (any_of HT_.out (by kernel_rfl)) (fun _ _ _ h => h) (Or.inl ⟨by rfl, ?_⟩) ?_ ?_
          rotate_left
          ·
           intro w'
           go_simp
           with_reducible rfl
          rotate_left
          ·
           simp only [Act.put, List.setIfInBounds_toArray, List.set_cons_zero, List.set_cons_succ, i64_w, i32_w]
           rfl
          refine pure_ (i := 12) (N := some 54) (v := ?_) (a' := ?_) #[true, true, true, true, true, true, true, true, true, true, true, true, true, true, true, false, false, false, true, false, true, false, false, false, false] rfl rfl (any_of HT_.out (by kernel_rfl)) (fun _ _ _ h => h) (Or.inl ⟨by rfl, ?_⟩) ?_ ?_
          rotate_left
          ·
           intro w'
           go_simp
           with_reducible rfl
          rotate_left
          ·
           simp only [Act.put, List.setIfInBounds_toArray, List.set_cons_zero, List.set_cons_succ, i64_w, i32_w]
           rfl
          refine take_ (i := 15) (N := some 57) (v := ?_) (a' := ?_) #[true, true, true, true, true, true, true, true, true, true, true, true, true, true, true, true, false, false, true, false, true, false, false, false, false] rfl rfl (take_ofW HT_.out HW_.out (by kernel_rfl)) (fun _ _ _ h => h) (Or.inl ⟨by rfl, ?_⟩) hHeld ?_ ?_
          rotate_left
          ·
           rintro w' ⟨s0, s1, s2, s3, s4, s5, s6, s7, s8, s9, s10⟩
           go_simp
           with_reducible rfl
          rotate_left
          ·
           simp only [Act.put, List.setIfInBounds_toArray, List.set_cons_zero, List.set_cons_succ, i64_w, i32_w]
           rfl
          refine pure_ (i := 16) (N := some 58) (v := ?_) (a' := ?_) #[true, true, true, true, true, true, true, true, true, true, true, true, true, true, true, true, true, false, true, false, true, false, false, false, false] rfl rfl (any_of HT_.out (by kernel_rfl)) (fun _ _ _ h => h) (Or.inl ⟨by rfl, ?_⟩) ?_ ?_
          rotate_left
          ·
           intro w'
           go_simp
           with_reducible rfl
          rotate_left
          ·
           simp only [Act.put, List.setIfInBounds_toArray, List.set_cons_zero, List.set_cons_succ, i64_w, i32_w]
           rfl
          refine pure_ (i := 17) (N := some 59) (v := ?_) (a' := ?_) #[true, true, true, true, true, true, true, true, true, true, true, true, true, true, true, true, true, true, true, false, true, false, false, false, false] rfl rfl (any_of HT_.out (by kernel_rfl)) (fun _ _ _ h => h) (Or.inl ⟨by rfl, ?_⟩) ?_ ?_
          rotate_left
          ·
           intro w'
           go_simp
           with_reducible rfl
          rotate_left
          ·
           simp only [Act.put, List.setIfInBounds_toArray, List.set_cons_zero, List.set_cons_succ, i64_w, i32_w]
           rfl
          refine take_ (i := 19) (N := some 61) (v := ?_) (a' := ?_) #[true, true, true, true, true, true, true, true, true, true, true, true, true, true, true, true, true, true, true, true, true, false, false, false, false] rfl rfl (take_ofW HT_.out HW_.out (by kernel_rfl)) (fun _ _ _ h => h) (Or.inl ⟨by rfl, ?_⟩) hHeld ?_ ?_
          rotate_left
          ·
           rintro w' ⟨s0, s1, s2, s3, s4, s5, s6, s7, s8, s9, s10⟩
           go_simp
           with_reducible rfl
          rotate_left
          ·
           simp only [Act.put, List.setIfInBounds_toArray, List.set_cons_zero, List.set_cons_succ, i64_w, i32_w]
           rfl
          refine pure_ (i := 21) (N := some 63) (v := ?_) (a' := ?_) #[true, true, true, true, true, true, true, true, true, true, true, true, true, true, true, true, true, true, true, true, true, true, false, false, false] rfl rfl (any_of HT_.out (by kernel_rfl)) (fun _ _ _ h => h) (Or.inl ⟨by rfl, ?_⟩) ?_ ?_
          rotate_left
          ·
           intro w'
           go_simp
           with_reducible rfl
          rotate_left
          ·
           simp only [Act.put, List.setIfInBounds_toArray, List.set_cons_zero, List.set_cons_succ, i64_w, i32_w]
           rfl
          refine take_ (i := 22) (N := some 64) (v := ?_) (a' := ?_) #[true, true, true, true, true, true, true, true, true, true, true, true, true, true, true, true, true, true, true, true, true, true, true, false, false] rfl rfl (take_ofW HT_.out HW_.out (by kernel_rfl)) (fun _ _ _ h => h) (Or.inl ⟨by rfl, ?_⟩) hHeld ?_ ?_
          rotate_left
          ·
           rintro w' ⟨s0, s1, s2, s3, s4, s5, s6, s7, s8, s9, s10⟩
           go_simp
           with_reducible rfl
          rotate_left
          ·
           simp only [Act.put, List.setIfInBounds_toArray, List.set_cons_zero, List.set_cons_succ, i64_w, i32_w]
           rfl
          refine pure_ (i := 23) (N := some 65) (v := ?_) (a' := ?_) #[true, true, true, true, true, true, true, true, true, true, true, true, true, true, true, true, true, true, true, true, true, true, true, true, false] rfl rfl (any_of HT_.out (by kernel_rfl)) (fun _ _ _ h => h) (Or.inl ⟨by rfl, ?_⟩) ?_ ?_
          rotate_left
          ·
           intro w'
           go_simp
           with_reducible rfl
          rotate_left
          ·
           simp only [Act.put, List.setIfInBounds_toArray, List.set_cons_zero, List.set_cons_succ, i64_w, i32_w]
           rfl
          refine last_ (i := 24) (N := none) #[true, true, true, true, true, true, true, true, true, true, true, true, true, true, true, true, true, true, true, true, true, true, true, true, true] rfl rfl (one_of HT_.out (by kernel_rfl)) (by decide) (fun K hK => ?_)
          refine skip_ (w1 := ?_) (by rfl) rfl ?_ ?_
          rotate_left
          ·
           go_simp
           rfl
          refine hK.out _ _ ?_
          clear hK K
          refine done_ (done_of HT_.out (by kernel_rfl)) ?_
          try go_wp2
          go_roundg k1
          case measure => have := HK1.out; omega
          case rel => exact ⟨(wrap64 (x8_1 + 1)), (x269002_1), (x269003_1), (x269004_1), (y283), (x282003_1), (x282004_1), (u269002), (u269003), (u269004), (.slice (some ⟨go39, 0, none⟩) x282002_1.length co39), (u282003), (u282004), (by first | rfl | (simp; done) | (simp [*]; done)), H', ⟨by have := HK1.out; omega⟩, ⟨by (with_reducible repeat (first | apply Kd.R_alloc | apply Kd.R_drewN | apply Kd.R_drew)); exact Kd.R_mono (Kd.R_far (p := ⟨go39, ((ji36) : Int).toNat, none⟩) (Kd.R_mono HO_269002.out (fun k_ hk => (⟨hk, fun e_ => hk.2.2.1 (by rw [e_]; rfl)⟩ : _ ∧ k_ ≠ go39))) (fun _ hk => hk.2) (.int .u8 (rd l0_2 x8_1))) (fun _ hk => ⟨hk.1.1, ⟨hk.1.2.1, ⟨hk.1.2.2.1, ⟨hk.1.2.2.2.1, hk.1.2.2.2.2⟩⟩⟩⟩)⟩, ⟨by (with_reducible repeat (first | apply Kd.R_alloc | apply Kd.R_drewN | apply Kd.R_drew)); exact Kd.R_mono (Kd.R_far (p := ⟨go39, ((ji36) : Int).toNat, none⟩) (Kd.R_mono HO_269003.out (fun k_ hk => (⟨hk, fun e_ => hk.2.2.1 (by rw [e_]; rfl)⟩ : _ ∧ k_ ≠ go39))) (fun _ hk => hk.2) (.int .u8 (rd l0_2 x8_1))) (fun _ hk => ⟨hk.1.1, ⟨hk.1.2.1, ⟨hk.1.2.2.1, ⟨hk.1.2.2.2.1, hk.1.2.2.2.2⟩⟩⟩⟩)⟩, ⟨by (with_reducible repeat (first | apply Kd.R_alloc | apply Kd.R_drewN | apply Kd.R_drew)); exact Kd.R_mono (Kd.R_far (p := ⟨go39, ((ji36) : Int).toNat, none⟩) (Kd.R_mono HO_269004.out (fun k_ hk => (⟨hk, fun e_ => hk.2.2.1 (by rw [e_]; rfl)⟩ : _ ∧ k_ ≠ go39))) (fun _ hk => hk.2) (.int .u8 (rd l0_2 x8_1))) (fun _ hk => ⟨hk.1.1, ⟨hk.1.2.1, ⟨hk.1.2.2.1, ⟨hk.1.2.2.2.1, hk.1.2.2.2.2⟩⟩⟩⟩)⟩, ⟨by (with_reducible repeat (first | apply Kd.R_alloc | apply Kd.R_drewN | apply Kd.R_drew)); exact HQ45.out⟩, ⟨by (with_reducible repeat (first | apply Kd.R_alloc | apply Kd.R_drewN | apply Kd.R_drew)); exact Kd.R_mono (Kd.R_far (p := ⟨go39, ((ji36) : Int).toNat, none⟩) (Kd.R_mono HO_282003.out (fun k_ hk => (⟨hk, fun e_ => hk.2.2.2.1 (by rw [e_]; rfl)⟩ : _ ∧ k_ ≠ go39))) (fun _ hk => hk.2) (.int .u8 (rd l0_2 x8_1))) (fun _ hk => ⟨hk.1.1, ⟨hk.1.2.1, ⟨hk.1.2.2.1, ⟨hk.1.2.2.2.1, hk.1.2.2.2.2⟩⟩⟩⟩)⟩, ⟨by (with_reducible repeat (first | apply Kd.R_alloc | apply Kd.R_drewN | apply Kd.R_drew)); exact Kd.R_mono (Kd.R_far (p := ⟨go39, ((ji36) : Int).toNat, none⟩) (Kd.R_mono HO_282004.out (fun k_ hk => (⟨hk, fun e_ => hk.2.2.2.1 (by rw [e_]; rfl)⟩ : _ ∧ k_ ≠ go39))) (fun _ hk => hk.2) (.int .u8 (rd l0_2 x8_1))) (fun _ hk => ⟨hk.1.1, ⟨hk.1.2.1, ⟨hk.1.2.2.1, ⟨hk.1.2.2.2.1, hk.1.2.2.2.2⟩⟩⟩⟩)⟩, ⟨by (with_reducible repeat (first | refine blk_drewN ?_ _ | refine blk_drew ?_ | refine blk_alloc ?_ _)); refine blk_far ?_ (by have h_ := Kd.R_ne HO_282002.out BK253.out (by decide); intro e_; exact h_ (by rw [e_]; rfl)) _; (with_reducible repeat (first | refine blk_drewN ?_ _ | refine blk_drew ?_ | refine blk_alloc ?_ _)); exact BK253.out⟩, ⟨by (with_reducible repeat (first | refine blk_drewN ?_ _ | refine blk_drew ?_ | refine blk_alloc ?_ _)); refine blk_far ?_ (by have h_ := Kd.R_ne HO_282002.out BK254.out (by decide); intro e_; exact h_ (by rw [e_]; rfl)) _; (with_reducible repeat (first | refine blk_drewN ?_ _ | refine blk_drew ?_ | refine blk_alloc ?_ _)); exact BK254.out⟩, ⟨by (with_reducible repeat (first | refine blk_drewN ?_ _ | refine blk_drew ?_ | refine blk_alloc ?_ _)); refine blk_far ?_ (by have h_ := Kd.R_ne HO_282002.out BK268.out (by decide); intro e_; exact h_ (by rw [e_]; rfl)) _; (with_reducible repeat (first | refine blk_drewN ?_ _ | refine blk_drew ?_ | refine blk_alloc ?_ _)); exact BK268.out⟩, ⟨by (with_reducible repeat (first | refine blk_drewN ?_ _ | refine blk_drew ?_ | refine blk_alloc ?_ _)); refine blk_far ?_ (by have h_ := Kd.R_ne HO_282002.out BK281.out (by decide); intro e_; exact h_ (by rw [e_]; rfl)) _; (with_reducible repeat (first | refine blk_drewN ?_ _ | refine blk_drew ?_ | refine blk_alloc ?_ _)); exact BK281.out⟩, ⟨by repeat (first | (with_reducible first | exact HB.out | apply below_alloc | apply pw_below_drewN | apply below_drew1 | refine below_set ?_ GB39.out | refine below_set ?_ GE253.out | refine below_set ?_ GE254.out | refine below_set ?_ GE268.out | refine below_set ?_ GE281.out) | exact HB.out)⟩⟩
         ·
          rw [if_neg c38] at H
          exact absurd H (by simp)
        ·
         rw [if_neg c37] at H
         exact absurd H (by simp)
       ·
        rw [if_neg c35] at H
        exact absurd H (by simp)
     ·
      rw [if_neg c33] at H
      have c33b0 : decide (x8_1 < (l0_2.length : Int)) = false := decide_eq_false c33
      clear c33
      replace H := Option.bind_eq_some_iff.mp H
      obtain ⟨⟨t284, t285, t286, t289, t292, t295⟩, A460, H⟩ := H
      replace H : (if t295 = 0 then (if (t286.length : Int) = (x269002_1.length : Int) then (cutroomlaw08_MotionMirror.j1 k1 ((x269002_1.length : Int) != (wrap64 (a1_2 * a1_3))) a1_0 a1_1 a1_2 a1_3 a1_4 a1_5 t256 t257 x269002_1 x269003_1 x269004_1 t284 t285 t286 t289 t292) else (cutroomlaw08_MotionMirror.j1 k1 true a1_0 a1_1 a1_2 a1_3 a1_4 a1_5 t256 t257 x269002_1 x269003_1 x269004_1 t284 t285 t286 t289 t292)) else (cutroomlaw08_MotionMirror.j1 k1 true a1_0 a1_1 a1_2 a1_3 a1_4 a1_5 t256 t257 x269002_1 x269003_1 x269004_1 t284 t285 t286 t289 t292)) = some r := H
      have A46 := Aside0.mk A460
      clear A460
      have HC47 := Aside0.mk H
      clear H
      have hnb48 := NB253_254.out
      have hnc48 := NB254_253.out
      have hnb49 := NB253_268.out
      have hnc49 := NB268_253.out
      have hnb50 := NB253_281.out
      have hnc50 := NB281_253.out
      have hcz51_0 : wr.cell? ⟨gb253, 0, none⟩ = some (.int .i64 a0_0) := (blk_cell BK253.out 0).trans rfl
      have hcz51_1 : wr.cell? ⟨gb253, 1, none⟩ = some (.int .i64 a0_1) := (blk_cell BK253.out 1).trans rfl
      have hcz51_2 : wr.cell? ⟨gb253, 2, none⟩ = some (.slice A0_2 l0_2.length c0_2) := (blk_cell BK253.out 2).trans rfl
      have hcz51_3 : wr.cell? ⟨gb253, 3, none⟩ = some (.slice A0_3 l0_3.length c0_3) := (blk_cell BK253.out 3).trans rfl
      have hcz51_4 : wr.cell? ⟨gb253, 4, none⟩ = some (.slice A0_4 l0_4.length c0_4) := (blk_cell BK253.out 4).trans rfl
      have hfz51_0 := blk_frozen BK253.out 0
      have hfz51_1 := blk_frozen BK253.out 1
      have hfz51_2 := blk_frozen BK253.out 2
      have hfz51_3 := blk_frozen BK253.out 3
      have hfz51_4 := blk_frozen BK253.out 4
      have hnb52 := NB281_254.out
      have hnc52 := NB254_281.out
      have hnb53 := NB281_268.out
      have hnc53 := NB268_281.out
      have hcz54_0 : wr.cell? ⟨gb281, 0, none⟩ = some (.int .i64 t270) := (blk_cell BK281.out 0).trans rfl
      have hcz54_1 : wr.cell? ⟨gb281, 1, none⟩ = some (.int .i64 t271) := (blk_cell BK281.out 1).trans rfl
      have hcz54_2 : wr.cell? ⟨gb281, 2, none⟩ = some (u282002) := (blk_cell BK281.out 2).trans rfl
      have hcz54_3 : wr.cell? ⟨gb281, 3, none⟩ = some (u282003) := (blk_cell BK281.out 3).trans rfl
      have hcz54_4 : wr.cell? ⟨gb281, 4, none⟩ = some (u282004) := (blk_cell BK281.out 4).trans rfl
      have hfz54_0 := blk_frozen BK281.out 0
      have hfz54_1 := blk_frozen BK281.out 1
      have hfz54_2 := blk_frozen BK281.out 2
      have hfz54_3 := blk_frozen BK281.out 3
      have hfz54_4 := blk_frozen BK281.out 4
      have hnb55 := NB254_268.out
      have hnc55 := NB268_254.out
      have hcz56_0 : wr.cell? ⟨gb254, 0, none⟩ = some (.int .i64 a1_0) := (blk_cell BK254.out 0).trans rfl
      have hcz56_1 : wr.cell? ⟨gb254, 1, none⟩ = some (.int .i64 a1_1) := (blk_cell BK254.out 1).trans rfl
      have hcz56_2 : wr.cell? ⟨gb254, 2, none⟩ = some (.int .i64 a1_2) := (blk_cell BK254.out 2).trans rfl
      have hcz56_3 : wr.cell? ⟨gb254, 3, none⟩ = some (.int .i64 a1_3) := (blk_cell BK254.out 3).trans rfl
      have hcz56_4 : wr.cell? ⟨gb254, 4, none⟩ = some (.int .i64 a1_4) := (blk_cell BK254.out 4).trans rfl
      have hcz56_5 : wr.cell? ⟨gb254, 5, none⟩ = some (.int .i64 a1_5) := (blk_cell BK254.out 5).trans rfl
      have hfz56_0 := blk_frozen BK254.out 0
      have hfz56_1 := blk_frozen BK254.out 1
      have hfz56_2 := blk_frozen BK254.out 2
      have hfz56_3 := blk_frozen BK254.out 3
      have hfz56_4 := blk_frozen BK254.out 4
      have hfz56_5 := blk_frozen BK254.out 5
      obtain ⟨Ao57, co57, eo57⟩ := Kd.R_slice HO_282002.out
      subst eo57
      obtain ⟨Ao58, co58, eo58⟩ := Kd.R_slice HO_282003.out
      subst eo58
      obtain ⟨Ao59, co59, eo59⟩ := Kd.R_slice HO_282004.out
      subst eo59
      go_upto_region 12 with (first | ((with_reducible refine gate_callee (f := 15) rfl ?_); refine goesL_ (some 90) rfl rfl Try.func15 (by kernel_rfl) rfl #[.agg #[.int .i64 t270, .int .i64 t271, .slice Ao57 x282002_1.length co57, .slice Ao58 x282003_1.length co58, .slice Ao59 x282004_1.length co59], .int .i64 (wrap64 ((wrap64 (a0_0 - a1_2)) - a1_0)), .int .i64 a1_1, .int .i64 a1_2, .int .i64 a1_3, .agg #[.int .i64 (wrap64 (-a1_4)), .int .i64 a1_5]] rfl (by (try simp only [List.map_toArray, List.map_cons, List.map_nil]); first | done | rfl | (simp only [List.length_drop, List.length_take]; rfl)) ?_; (with_reducible refine (motion_Predict.calls k1 t270 t271 _ _ x282002_1 _ _ x282003_1 _ _ x282004_1 (wrap64 ((wrap64 (a0_0 - a1_2)) - a1_0)) a1_1 a1_2 a1_3 (wrap64 (-a1_4)) a1_5 t284 t285 t286 t289 t292 t295 _ ?side1 ?side2 ?side3 ?side4 ?side5 ?side6 A46.out).mono ?_); (case side1 => repeat (first | exact (Kd.R_reads' HO_282002.out).2.2 | (with_reducible refine Kd.C_alloc ?_ _) | (with_reducible refine Kd.C_drewN ?_ _) | (with_reducible refine Kd.C_drew ?_))); (case side2 => exact (Kd.R_reads' HO_282002.out).2.1); (case side3 => repeat (first | exact (Kd.R_reads' HO_282003.out).2.2 | (with_reducible refine Kd.C_alloc ?_ _) | (with_reducible refine Kd.C_drewN ?_ _) | (with_reducible refine Kd.C_drew ?_))); (case side4 => exact (Kd.R_reads' HO_282003.out).2.1); (case side5 => repeat (first | exact (Kd.R_reads' HO_282004.out).2.2 | (with_reducible refine Kd.C_alloc ?_ _) | (with_reducible refine Kd.C_drewN ?_ _) | (with_reducible refine Kd.C_drew ?_))); (case side6 => exact (Kd.R_reads' HO_282004.out).2.1); rintro e w60 ⟨v287, v290, v293, rfl, ho0, ho1, ho2, hb⟩; refine ⟨_, rfl, ?_⟩; have n0_ := Aside0.mk (Kd.R_mono (Kd.R_told (Kd.R_told (Kd.R_told (Kd.R_old (by (with_reducible repeat (first | apply Kd.R_alloc | apply Kd.R_drewN | apply Kd.R_drew)); exact HO_269002.out) hb) (Kd.R_base ho0)) (Kd.R_base ho1)) (Kd.R_base ho2)) (fun _ h_ => h_.1)); have n1_ := Aside0.mk (Kd.R_mono (Kd.R_told (Kd.R_told (Kd.R_told (Kd.R_old (by (with_reducible repeat (first | apply Kd.R_alloc | apply Kd.R_drewN | apply Kd.R_drew)); exact HO_269003.out) hb) (Kd.R_base ho0)) (Kd.R_base ho1)) (Kd.R_base ho2)) (fun _ h_ => h_.1)); have n2_ := Aside0.mk (Kd.R_mono (Kd.R_told (Kd.R_told (Kd.R_told (Kd.R_old (by (with_reducible repeat (first | apply Kd.R_alloc | apply Kd.R_drewN | apply Kd.R_drew)); exact HO_269004.out) hb) (Kd.R_base ho0)) (Kd.R_base ho1)) (Kd.R_base ho2)) (fun _ h_ => h_.1)); have n3_ := Aside0.mk (Kd.R_mono (Kd.R_told (Kd.R_told (Kd.R_told (Kd.R_old (by (with_reducible repeat (first | apply Kd.R_alloc | apply Kd.R_drewN | apply Kd.R_drew)); exact HO_282002.out) hb) (Kd.R_base ho0)) (Kd.R_base ho1)) (Kd.R_base ho2)) (fun _ h_ => h_.1)); have n4_ := Aside0.mk (Kd.R_mono (Kd.R_told (Kd.R_told (Kd.R_told (Kd.R_old (by (with_reducible repeat (first | apply Kd.R_alloc | apply Kd.R_drewN | apply Kd.R_drew)); exact HO_282003.out) hb) (Kd.R_base ho0)) (Kd.R_base ho1)) (Kd.R_base ho2)) (fun _ h_ => h_.1)); have n5_ := Aside0.mk (Kd.R_mono (Kd.R_told (Kd.R_told (Kd.R_told (Kd.R_old (by (with_reducible repeat (first | apply Kd.R_alloc | apply Kd.R_drewN | apply Kd.R_drew)); exact HO_282004.out) hb) (Kd.R_base ho0)) (Kd.R_base ho1)) (Kd.R_base ho2)) (fun _ h_ => h_.1)); have n6_ := Aside0.mk (Kd.R_lower (Kd.R_new' (Kd.R_new' (Kd.R_new' (Kd.R_new' (Kd.R_new' (Kd.R_new' ho0 (Kd.R_lt (by (with_reducible repeat (first | apply Kd.R_alloc | apply Kd.R_drewN | apply Kd.R_drew)); exact HO_269002.out))) (Kd.R_lt (by (with_reducible repeat (first | apply Kd.R_alloc | apply Kd.R_drewN | apply Kd.R_drew)); exact HO_269003.out))) (Kd.R_lt (by (with_reducible repeat (first | apply Kd.R_alloc | apply Kd.R_drewN | apply Kd.R_drew)); exact HO_269004.out))) (Kd.R_lt (by (with_reducible repeat (first | apply Kd.R_alloc | apply Kd.R_drewN | apply Kd.R_drew)); exact HO_282002.out))) (Kd.R_lt (by (with_reducible repeat (first | apply Kd.R_alloc | apply Kd.R_drewN | apply Kd.R_drew)); exact HO_282003.out))) (Kd.R_lt (by (with_reducible repeat (first | apply Kd.R_alloc | apply Kd.R_drewN | apply Kd.R_drew)); exact HO_282004.out))) (below_size (by repeat (first | (with_reducible first | exact HB.out | apply below_alloc | apply pw_below_drewN | apply below_drew1 | refine below_set ?_ GE253.out | refine below_set ?_ GE254.out | refine below_set ?_ GE268.out | refine below_set ?_ GE281.out) | exact HB.out)))); have n7_ := Aside0.mk (Kd.R_lower (Kd.R_new' (Kd.R_new' (Kd.R_new' (Kd.R_new' (Kd.R_new' (Kd.R_new' ho1 (Kd.R_lt (by (with_reducible repeat (first | apply Kd.R_alloc | apply Kd.R_drewN | apply Kd.R_drew)); exact HO_269002.out))) (Kd.R_lt (by (with_reducible repeat (first | apply Kd.R_alloc | apply Kd.R_drewN | apply Kd.R_drew)); exact HO_269003.out))) (Kd.R_lt (by (with_reducible repeat (first | apply Kd.R_alloc | apply Kd.R_drewN | apply Kd.R_drew)); exact HO_269004.out))) (Kd.R_lt (by (with_reducible repeat (first | apply Kd.R_alloc | apply Kd.R_drewN | apply Kd.R_drew)); exact HO_282002.out))) (Kd.R_lt (by (with_reducible repeat (first | apply Kd.R_alloc | apply Kd.R_drewN | apply Kd.R_drew)); exact HO_282003.out))) (Kd.R_lt (by (with_reducible repeat (first | apply Kd.R_alloc | apply Kd.R_drewN | apply Kd.R_drew)); exact HO_282004.out))) (below_size (by repeat (first | (with_reducible first | exact HB.out | apply below_alloc | apply pw_below_drewN | apply below_drew1 | refine below_set ?_ GE253.out | refine below_set ?_ GE254.out | refine below_set ?_ GE268.out | refine below_set ?_ GE281.out) | exact HB.out)))); have n8_ := Aside0.mk (Kd.R_lower (Kd.R_new' (Kd.R_new' (Kd.R_new' (Kd.R_new' (Kd.R_new' (Kd.R_new' ho2 (Kd.R_lt (by (with_reducible repeat (first | apply Kd.R_alloc | apply Kd.R_drewN | apply Kd.R_drew)); exact HO_269002.out))) (Kd.R_lt (by (with_reducible repeat (first | apply Kd.R_alloc | apply Kd.R_drewN | apply Kd.R_drew)); exact HO_269003.out))) (Kd.R_lt (by (with_reducible repeat (first | apply Kd.R_alloc | apply Kd.R_drewN | apply Kd.R_drew)); exact HO_269004.out))) (Kd.R_lt (by (with_reducible repeat (first | apply Kd.R_alloc | apply Kd.R_drewN | apply Kd.R_drew)); exact HO_282002.out))) (Kd.R_lt (by (with_reducible repeat (first | apply Kd.R_alloc | apply Kd.R_drewN | apply Kd.R_drew)); exact HO_282003.out))) (Kd.R_lt (by (with_reducible repeat (first | apply Kd.R_alloc | apply Kd.R_drewN | apply Kd.R_drew)); exact HO_282004.out))) (below_size (by repeat (first | (with_reducible first | exact HB.out | apply below_alloc | apply pw_below_drewN | apply below_drew1 | refine below_set ?_ GE253.out | refine below_set ?_ GE254.out | refine below_set ?_ GE268.out | refine below_set ?_ GE281.out) | exact HB.out)))); have n9_ := Aside0.mk (blk_below (g := gb253) (o := .cells #[.int .i64 a0_0, .int .i64 a0_1, .slice A0_2 l0_2.length c0_2, .slice A0_3 l0_3.length c0_3, .slice A0_4 l0_4.length c0_4] 24 (0, 0)) (by (with_reducible repeat (first | refine blk_drewN ?_ _ | refine blk_drew ?_ | refine blk_alloc ?_ _)); exact BK253.out) hb); have n10_ := Aside0.mk (blk_below (g := gb254) (o := .cells #[.int .i64 a1_0, .int .i64 a1_1, .int .i64 a1_2, .int .i64 a1_3, .int .i64 a1_4, .int .i64 a1_5] 34 (0, 0)) (by (with_reducible repeat (first | refine blk_drewN ?_ _ | refine blk_drew ?_ | refine blk_alloc ?_ _)); exact BK254.out) hb); have n11_ := Aside0.mk (blk_below (g := gb268) (o := .cells #[.int .i64 t256, .int .i64 t257, u269002, u269003, u269004] 24 (0, 0)) (by (with_reducible repeat (first | refine blk_drewN ?_ _ | refine blk_drew ?_ | refine blk_alloc ?_ _)); exact BK268.out) hb); have n12_ := Aside0.mk (blk_below (g := gb281) (o := .cells #[.int .i64 t270, .int .i64 t271, .slice Ao57 x282002_1.length co57, .slice Ao58 x282003_1.length co58, .slice Ao59 x282004_1.length co59] 24 (0, 0)) (by (with_reducible repeat (first | refine blk_drewN ?_ _ | refine blk_drew ?_ | refine blk_alloc ?_ _)); exact BK281.out) hb); have n13_ := Aside0.mk (below_step (by repeat (first | (with_reducible first | exact HB.out | apply below_alloc | apply pw_below_drewN | apply below_drew1 | refine below_set ?_ GE253.out | refine below_set ?_ GE254.out | refine below_set ?_ GE268.out | refine below_set ?_ GE281.out) | exact HB.out)) hb); clear HO_269002; clear HO_269003; clear HO_269004; clear HO_282002; clear HO_282003; clear HO_282004; clear BK253; clear BK254; clear BK268; clear BK281; clear HB; have HO_269002 := n0_; have HO_269003 := n1_; have HO_269004 := n2_; have HO_282002 := n3_; have HO_282003 := n4_; have HO_282004 := n5_; have HO288 := n6_; have HO291 := n7_; have HO294 := n8_; have BK253 := n9_; have BK254 := n10_; have BK268 := n11_; have BK281 := n12_; have HB := n13_; clear n0_ n1_ n2_ n3_ n4_ n5_ n6_ n7_ n8_ n9_ n10_ n11_ n12_ n13_; (try clear hb); (try clear hb2); (try clear hk); (try clear hi); (try clear ho0); (try clear ho1); (try clear ho2)) | ((with_reducible refine gate_dst (N := 9) rfl ?_); (try (refine gate_guard (by rfl) ?_; dsimp only)); refine box_event ?hg (N := 9) ?hd (cs := #[.int .i64 0, .int .i64 0, .slice none 0 0, .slice none 0 0, .slice none 0 0]) (t := 24) ?hr ?_; (case hd => rfl); (case hg => rfl); (case hr => first | (go_simp; done) | (go_simp; rfl)); intro gb296 hg w61 hbox hb; have n0_ := Aside0.mk (Kd.R_below (by (with_reducible repeat (first | apply Kd.R_alloc | apply Kd.R_drewN | apply Kd.R_drew)); exact HO_269002.out) hb); have n1_ := Aside0.mk (Kd.R_below (by (with_reducible repeat (first | apply Kd.R_alloc | apply Kd.R_drewN | apply Kd.R_drew)); exact HO_269003.out) hb); have n2_ := Aside0.mk (Kd.R_below (by (with_reducible repeat (first | apply Kd.R_alloc | apply Kd.R_drewN | apply Kd.R_drew)); exact HO_269004.out) hb); have n3_ := Aside0.mk (Kd.R_below (by (with_reducible repeat (first | apply Kd.R_alloc | apply Kd.R_drewN | apply Kd.R_drew)); exact HO_282002.out) hb); have n4_ := Aside0.mk (Kd.R_below (by (with_reducible repeat (first | apply Kd.R_alloc | apply Kd.R_drewN | apply Kd.R_drew)); exact HO_282003.out) hb); have n5_ := Aside0.mk (Kd.R_below (by (with_reducible repeat (first | apply Kd.R_alloc | apply Kd.R_drewN | apply Kd.R_drew)); exact HO_282004.out) hb); have n6_ := Aside0.mk (Kd.R_below (by (with_reducible repeat (first | apply Kd.R_alloc | apply Kd.R_drewN | apply Kd.R_drew)); exact HO288.out) hb); have n7_ := Aside0.mk (Kd.R_below (by (with_reducible repeat (first | apply Kd.R_alloc | apply Kd.R_drewN | apply Kd.R_drew)); exact HO291.out) hb); have n8_ := Aside0.mk (Kd.R_below (by (with_reducible repeat (first | apply Kd.R_alloc | apply Kd.R_drewN | apply Kd.R_drew)); exact HO294.out) hb); have n9_ := Aside0.mk (blk_below (g := gb253) (o := .cells #[.int .i64 a0_0, .int .i64 a0_1, .slice A0_2 l0_2.length c0_2, .slice A0_3 l0_3.length c0_3, .slice A0_4 l0_4.length c0_4] 24 (0, 0)) (by (with_reducible repeat (first | refine blk_drewN ?_ _ | refine blk_drew ?_ | refine blk_alloc ?_ _)); exact BK253.out) hb); have n10_ := Aside0.mk (blk_below (g := gb254) (o := .cells #[.int .i64 a1_0, .int .i64 a1_1, .int .i64 a1_2, .int .i64 a1_3, .int .i64 a1_4, .int .i64 a1_5] 34 (0, 0)) (by (with_reducible repeat (first | refine blk_drewN ?_ _ | refine blk_drew ?_ | refine blk_alloc ?_ _)); exact BK254.out) hb); have n11_ := Aside0.mk (blk_below (g := gb268) (o := .cells #[.int .i64 t256, .int .i64 t257, u269002, u269003, u269004] 24 (0, 0)) (by (with_reducible repeat (first | refine blk_drewN ?_ _ | refine blk_drew ?_ | refine blk_alloc ?_ _)); exact BK268.out) hb); have n12_ := Aside0.mk (blk_below (g := gb281) (o := .cells #[.int .i64 t270, .int .i64 t271, .slice Ao57 x282002_1.length co57, .slice Ao58 x282003_1.length co58, .slice Ao59 x282004_1.length co59] 24 (0, 0)) (by (with_reducible repeat (first | refine blk_drewN ?_ _ | refine blk_drew ?_ | refine blk_alloc ?_ _)); exact BK281.out) hb); have n13_ := Aside0.mk (below_step (by repeat (first | (with_reducible first | exact HB.out | apply below_alloc | apply pw_below_drewN | apply below_drew1 | refine below_set ?_ GE253.out | refine below_set ?_ GE254.out | refine below_set ?_ GE268.out | refine below_set ?_ GE281.out) | exact HB.out)) hb); have n14_ := Aside0.mk (hbox); have n15_ := Aside0.mk ((by rw [hg]; exact (below_size (by repeat (first | (with_reducible first | exact HB.out | apply below_alloc | apply pw_below_drewN | apply below_drew1 | refine below_set ?_ GE253.out | refine below_set ?_ GE254.out | refine below_set ?_ GE268.out | refine below_set ?_ GE281.out) | exact HB.out))) : w.heap.size ≤ gb296)); have n16_ := Aside0.mk ((by rw [hg]; exact (below_size (by repeat (first | (with_reducible first | exact HB.out | apply below_alloc | apply pw_below_drewN | apply below_drew1 | refine below_set ?_ GE253.out | refine below_set ?_ GE254.out | refine below_set ?_ GE268.out | refine below_set ?_ GE281.out) | exact HB.out))) : w.heap.size ≤ gb296)); have n17_ := Aside0.mk ((by rw [hg]; exact Nat.ne_of_lt (blk_lt (g := gb253) (o := .cells #[.int .i64 a0_0, .int .i64 a0_1, .slice A0_2 l0_2.length c0_2, .slice A0_3 l0_3.length c0_3, .slice A0_4 l0_4.length c0_4] 24 (0, 0)) (by (with_reducible repeat (first | refine blk_drewN ?_ _ | refine blk_drew ?_ | refine blk_alloc ?_ _)); exact BK253.out)) : gb253 ≠ gb296)); have n18_ := Aside0.mk ((by rw [hg]; exact Nat.ne_of_gt (blk_lt (g := gb253) (o := .cells #[.int .i64 a0_0, .int .i64 a0_1, .slice A0_2 l0_2.length c0_2, .slice A0_3 l0_3.length c0_3, .slice A0_4 l0_4.length c0_4] 24 (0, 0)) (by (with_reducible repeat (first | refine blk_drewN ?_ _ | refine blk_drew ?_ | refine blk_alloc ?_ _)); exact BK253.out)) : gb296 ≠ gb253)); have n19_ := Aside0.mk ((by rw [hg]; exact Nat.ne_of_lt (blk_lt (g := gb254) (o := .cells #[.int .i64 a1_0, .int .i64 a1_1, .int .i64 a1_2, .int .i64 a1_3, .int .i64 a1_4, .int .i64 a1_5] 34 (0, 0)) (by (with_reducible repeat (first | refine blk_drewN ?_ _ | refine blk_drew ?_ | refine blk_alloc ?_ _)); exact BK254.out)) : gb254 ≠ gb296)); have n20_ := Aside0.mk ((by rw [hg]; exact Nat.ne_of_gt (blk_lt (g := gb254) (o := .cells #[.int .i64 a1_0, .int .i64 a1_1, .int .i64 a1_2, .int .i64 a1_3, .int .i64 a1_4, .int .i64 a1_5] 34 (0, 0)) (by (with_reducible repeat (first | refine blk_drewN ?_ _ | refine blk_drew ?_ | refine blk_alloc ?_ _)); exact BK254.out)) : gb296 ≠ gb254)); have n21_ := Aside0.mk ((by rw [hg]; exact Nat.ne_of_lt (blk_lt (g := gb268) (o := .cells #[.int .i64 t256, .int .i64 t257, u269002, u269003, u269004] 24 (0, 0)) (by (with_reducible repeat (first | refine blk_drewN ?_ _ | refine blk_drew ?_ | refine blk_alloc ?_ _)); exact BK268.out)) : gb268 ≠ gb296)); have n22_ := Aside0.mk ((by rw [hg]; exact Nat.ne_of_gt (blk_lt (g := gb268) (o := .cells #[.int .i64 t256, .int .i64 t257, u269002, u269003, u269004] 24 (0, 0)) (by (with_reducible repeat (first | refine blk_drewN ?_ _ | refine blk_drew ?_ | refine blk_alloc ?_ _)); exact BK268.out)) : gb296 ≠ gb268)); have n23_ := Aside0.mk ((by rw [hg]; exact Nat.ne_of_lt (blk_lt (g := gb281) (o := .cells #[.int .i64 t270, .int .i64 t271, .slice Ao57 x282002_1.length co57, .slice Ao58 x282003_1.length co58, .slice Ao59 x282004_1.length co59] 24 (0, 0)) (by (with_reducible repeat (first | refine blk_drewN ?_ _ | refine blk_drew ?_ | refine blk_alloc ?_ _)); exact BK281.out)) : gb281 ≠ gb296)); have n24_ := Aside0.mk ((by rw [hg]; exact Nat.ne_of_gt (blk_lt (g := gb281) (o := .cells #[.int .i64 t270, .int .i64 t271, .slice Ao57 x282002_1.length co57, .slice Ao58 x282003_1.length co58, .slice Ao59 x282004_1.length co59] 24 (0, 0)) (by (with_reducible repeat (first | refine blk_drewN ?_ _ | refine blk_drew ?_ | refine blk_alloc ?_ _)); exact BK281.out)) : gb296 ≠ gb281)); clear HO_269002; clear HO_269003; clear HO_269004; clear HO_282002; clear HO_282003; clear HO_282004; clear HO288; clear HO291; clear HO294; clear BK253; clear BK254; clear BK268; clear BK281; clear HB; have HO_269002 := n0_; have HO_269003 := n1_; have HO_269004 := n2_; have HO_282002 := n3_; have HO_282003 := n4_; have HO_282004 := n5_; have HO288 := n6_; have HO291 := n7_; have HO294 := n8_; have BK253 := n9_; have BK254 := n10_; have BK268 := n11_; have BK281 := n12_; have HB := n13_; have BK296 := n14_; have GW296 := n15_; have GE296 := n16_; have NB253_296 := n17_; have NB296_253 := n18_; have NB254_296 := n19_; have NB296_254 := n20_; have NB268_296 := n21_; have NB296_268 := n22_; have NB281_296 := n23_; have NB296_281 := n24_; clear n0_ n1_ n2_ n3_ n4_ n5_ n6_ n7_ n8_ n9_ n10_ n11_ n12_ n13_ n14_ n15_ n16_ n17_ n18_ n19_ n20_ n21_ n22_ n23_ n24_; clear hb hbox hg; have hnb62 := NB296_253.out; have hnc62 := NB253_296.out; have hnb63 := NB296_254.out; have hnc63 := NB254_296.out; have hnb64 := NB296_268.out; have hnc64 := NB268_296.out; have hnb65 := NB296_281.out; have hnc65 := NB281_296.out; have hcz66_0 : w61.cell? ⟨gb296, 0, none⟩ = some (.int .i64 0) := (blk_cell BK296.out 0).trans rfl; have hcz66_1 : w61.cell? ⟨gb296, 1, none⟩ = some (.int .i64 0) := (blk_cell BK296.out 1).trans rfl; have hcz66_2 : w61.cell? ⟨gb296, 2, none⟩ = some (.slice none 0 0) := (blk_cell BK296.out 2).trans rfl; have hcz66_3 : w61.cell? ⟨gb296, 3, none⟩ = some (.slice none 0 0) := (blk_cell BK296.out 3).trans rfl; have hcz66_4 : w61.cell? ⟨gb296, 4, none⟩ = some (.slice none 0 0) := (blk_cell BK296.out 4).trans rfl; have hfz66_0 := blk_frozen BK296.out 0; have hfz66_1 := blk_frozen BK296.out 1; have hfz66_2 := blk_frozen BK296.out 2; have hfz66_3 := blk_frozen BK296.out 3; have hfz66_4 := blk_frozen BK296.out 4; obtain ⟨Ao67, co67, eo67⟩ := Kd.R_slice HO288.out; subst eo67; obtain ⟨Ao68, co68, eo68⟩ := Kd.R_slice HO291.out; subst eo68; obtain ⟨Ao69, co69, eo69⟩ := Kd.R_slice HO294.out; subst eo69))
      (try simp only [Act.put, List.setIfInBounds_toArray, List.set_cons_zero, List.set_cons_succ])
      go_cut [114] (fun v114 wc => ∃ (kq : Nat) (x114_46 : Bool), v114 = .bool x114_46 ∧ Aside0 (cutroomlaw08_MotionMirror.j1 kq x114_46 a1_0 a1_1 a1_2 a1_3 a1_4 a1_5 t256 t257 x269002_1 x269003_1 x269004_1 t284 t285 t286 t289 t292 = some r) ∧ Aside0 (kq ≤ k1) ∧ Aside0 (Kd.R (Kd.int .u8) 5 wc w.heap.size (fun k_ => some k_ ≠ (u269003 : Value).ownBlock ∧ some k_ ≠ (u269004 : Value).ownBlock ∧ some k_ ≠ ((.slice Ao57 x282002_1.length co57) : Value).ownBlock ∧ some k_ ≠ ((.slice Ao58 x282003_1.length co58) : Value).ownBlock ∧ some k_ ≠ ((.slice Ao59 x282004_1.length co59) : Value).ownBlock ∧ some k_ ≠ ((.slice Ao67 t286.length co67) : Value).ownBlock ∧ some k_ ≠ ((.slice Ao68 t289.length co68) : Value).ownBlock ∧ some k_ ≠ ((.slice Ao69 t292.length co69) : Value).ownBlock) u269002 x269002_1) ∧ Aside0 (Kd.R (Kd.int .u8) 5 wc w.heap.size (fun k_ => some k_ ≠ (u269002 : Value).ownBlock ∧ some k_ ≠ (u269004 : Value).ownBlock ∧ some k_ ≠ ((.slice Ao57 x282002_1.length co57) : Value).ownBlock ∧ some k_ ≠ ((.slice Ao58 x282003_1.length co58) : Value).ownBlock ∧ some k_ ≠ ((.slice Ao59 x282004_1.length co59) : Value).ownBlock ∧ some k_ ≠ ((.slice Ao67 t286.length co67) : Value).ownBlock ∧ some k_ ≠ ((.slice Ao68 t289.length co68) : Value).ownBlock ∧ some k_ ≠ ((.slice Ao69 t292.length co69) : Value).ownBlock) u269003 x269003_1) ∧ Aside0 (Kd.R (Kd.int .u8) 5 wc w.heap.size (fun k_ => some k_ ≠ (u269002 : Value).ownBlock ∧ some k_ ≠ (u269003 : Value).ownBlock ∧ some k_ ≠ ((.slice Ao57 x282002_1.length co57) : Value).ownBlock ∧ some k_ ≠ ((.slice Ao58 x282003_1.length co58) : Value).ownBlock ∧ some k_ ≠ ((.slice Ao59 x282004_1.length co59) : Value).ownBlock ∧ some k_ ≠ ((.slice Ao67 t286.length co67) : Value).ownBlock ∧ some k_ ≠ ((.slice Ao68 t289.length co68) : Value).ownBlock ∧ some k_ ≠ ((.slice Ao69 t292.length co69) : Value).ownBlock) u269004 x269004_1) ∧ Aside0 (Kd.R (Kd.int .u8) 5 wc w.heap.size (fun k_ => some k_ ≠ (u269002 : Value).ownBlock ∧ some k_ ≠ (u269003 : Value).ownBlock ∧ some k_ ≠ (u269004 : Value).ownBlock ∧ some k_ ≠ ((.slice Ao58 x282003_1.length co58) : Value).ownBlock ∧ some k_ ≠ ((.slice Ao59 x282004_1.length co59) : Value).ownBlock ∧ some k_ ≠ ((.slice Ao67 t286.length co67) : Value).ownBlock ∧ some k_ ≠ ((.slice Ao68 t289.length co68) : Value).ownBlock ∧ some k_ ≠ ((.slice Ao69 t292.length co69) : Value).ownBlock) (.slice Ao57 x282002_1.length co57) x282002_1) ∧ Aside0 (Kd.R (Kd.int .u8) 5 wc w.heap.size (fun k_ => some k_ ≠ (u269002 : Value).ownBlock ∧ some k_ ≠ (u269003 : Value).ownBlock ∧ some k_ ≠ (u269004 : Value).ownBlock ∧ some k_ ≠ ((.slice Ao57 x282002_1.length co57) : Value).ownBlock ∧ some k_ ≠ ((.slice Ao59 x282004_1.length co59) : Value).ownBlock ∧ some k_ ≠ ((.slice Ao67 t286.length co67) : Value).ownBlock ∧ some k_ ≠ ((.slice Ao68 t289.length co68) : Value).ownBlock ∧ some k_ ≠ ((.slice Ao69 t292.length co69) : Value).ownBlock) (.slice Ao58 x282003_1.length co58) x282003_1) ∧ Aside0 (Kd.R (Kd.int .u8) 5 wc w.heap.size (fun k_ => some k_ ≠ (u269002 : Value).ownBlock ∧ some k_ ≠ (u269003 : Value).ownBlock ∧ some k_ ≠ (u269004 : Value).ownBlock ∧ some k_ ≠ ((.slice Ao57 x282002_1.length co57) : Value).ownBlock ∧ some k_ ≠ ((.slice Ao58 x282003_1.length co58) : Value).ownBlock ∧ some k_ ≠ ((.slice Ao67 t286.length co67) : Value).ownBlock ∧ some k_ ≠ ((.slice Ao68 t289.length co68) : Value).ownBlock ∧ some k_ ≠ ((.slice Ao69 t292.length co69) : Value).ownBlock) (.slice Ao59 x282004_1.length co59) x282004_1) ∧ Aside0 (Kd.R (Kd.int .u8) 5 wc w.heap.size (fun k_ => some k_ ≠ (u269002 : Value).ownBlock ∧ some k_ ≠ (u269003 : Value).ownBlock ∧ some k_ ≠ (u269004 : Value).ownBlock ∧ some k_ ≠ ((.slice Ao57 x282002_1.length co57) : Value).ownBlock ∧ some k_ ≠ ((.slice Ao58 x282003_1.length co58) : Value).ownBlock ∧ some k_ ≠ ((.slice Ao59 x282004_1.length co59) : Value).ownBlock ∧ some k_ ≠ ((.slice Ao68 t289.length co68) : Value).ownBlock ∧ some k_ ≠ ((.slice Ao69 t292.length co69) : Value).ownBlock) (.slice Ao67 t286.length co67) t286) ∧ Aside0 (Kd.R (Kd.int .u8) 5 wc w.heap.size (fun k_ => some k_ ≠ (u269002 : Value).ownBlock ∧ some k_ ≠ (u269003 : Value).ownBlock ∧ some k_ ≠ (u269004 : Value).ownBlock ∧ some k_ ≠ ((.slice Ao57 x282002_1.length co57) : Value).ownBlock ∧ some k_ ≠ ((.slice Ao58 x282003_1.length co58) : Value).ownBlock ∧ some k_ ≠ ((.slice Ao59 x282004_1.length co59) : Value).ownBlock ∧ some k_ ≠ ((.slice Ao67 t286.length co67) : Value).ownBlock ∧ some k_ ≠ ((.slice Ao69 t292.length co69) : Value).ownBlock) (.slice Ao68 t289.length co68) t289) ∧ Aside0 (Kd.R (Kd.int .u8) 5 wc w.heap.size (fun k_ => some k_ ≠ (u269002 : Value).ownBlock ∧ some k_ ≠ (u269003 : Value).ownBlock ∧ some k_ ≠ (u269004 : Value).ownBlock ∧ some k_ ≠ ((.slice Ao57 x282002_1.length co57) : Value).ownBlock ∧ some k_ ≠ ((.slice Ao58 x282003_1.length co58) : Value).ownBlock ∧ some k_ ≠ ((.slice Ao59 x282004_1.length co59) : Value).ownBlock ∧ some k_ ≠ ((.slice Ao67 t286.length co67) : Value).ownBlock ∧ some k_ ≠ ((.slice Ao68 t289.length co68) : Value).ownBlock) (.slice Ao69 t292.length co69) t292) ∧ Aside0 (wc.heap[gb253]? = some (.cells #[.int .i64 a0_0, .int .i64 a0_1, (.slice A0_2 l0_2.length c0_2), (.slice A0_3 l0_3.length c0_3), (.slice A0_4 l0_4.length c0_4)] 24 (0, 0))) ∧ Aside0 (wc.heap[gb254]? = some (.cells #[.int .i64 a1_0, .int .i64 a1_1, .int .i64 a1_2, .int .i64 a1_3, .int .i64 a1_4, .int .i64 a1_5] 34 (0, 0))) ∧ Aside0 (wc.heap[gb268]? = some (.cells #[.int .i64 t256, .int .i64 t257, u269002, u269003, u269004] 24 (0, 0))) ∧ Aside0 (wc.heap[gb281]? = some (.cells #[.int .i64 t270, .int .i64 t271, (.slice Ao57 x282002_1.length co57), (.slice Ao58 x282003_1.length co58), (.slice Ao59 x282004_1.length co59)] 24 (0, 0))) ∧ Aside0 (wc.heap[gb296]? = some (.cells #[.int .i64 t284, .int .i64 t285, (.slice Ao67 t286.length co67), (.slice Ao68 t289.length co68), (.slice Ao69 t292.length co69)] 24 (0, 0))) ∧ Aside0 (Below w.heap.size w wc))
      case first =>
       have H := HC47.out
       clear HC47
       by_cases c70 : t295 = 0
       ·
        rw [if_pos c70] at H
        have c70b0 : (t295 == 0) = true := beq_iff_eq.mpr c70
        have c70b1 : (t295 != 0) = false := bne_eq_false_iff_eq.mpr c70
        clear c70
        (first | rw [c70b0] | (simp only [i64_w, i32_w]; rw [c70b0]) | skip)
        by_cases c71 : (t286.length : Int) = (x269002_1.length : Int)
        ·
         rw [if_pos c71] at H
         have c71b0 : ((t286.length : Int) == (x269002_1.length : Int)) = true := beq_iff_eq.mpr c71
         have c71b1 : ((t286.length : Int) != (x269002_1.length : Int)) = false := bne_eq_false_iff_eq.mpr c71
         have c71b2 : (t286.length == x269002_1.length) = true := by first | simpa using c71 | (simp at c71 ⊢; omega)
         clear c71
         have H' := Aside0.mk H
         clear H
         have hnb72 := NB296_253.out
         have hnc72 := NB253_296.out
         have hnb73 := NB296_254.out
         have hnc73 := NB254_296.out
         have hnb74 := NB296_268.out
         have hnc74 := NB268_296.out
         have hnb75 := NB296_281.out
         have hnc75 := NB281_296.out
         have hcz76_0 : w61.cell? ⟨gb296, 0, none⟩ = some (.int .i64 0) := (blk_cell BK296.out 0).trans rfl
         have hcz76_1 : w61.cell? ⟨gb296, 1, none⟩ = some (.int .i64 0) := (blk_cell BK296.out 1).trans rfl
         have hcz76_2 : w61.cell? ⟨gb296, 2, none⟩ = some (.slice none 0 0) := (blk_cell BK296.out 2).trans rfl
         have hcz76_3 : w61.cell? ⟨gb296, 3, none⟩ = some (.slice none 0 0) := (blk_cell BK296.out 3).trans rfl
         have hcz76_4 : w61.cell? ⟨gb296, 4, none⟩ = some (.slice none 0 0) := (blk_cell BK296.out 4).trans rfl
         have hfz76_0 := blk_frozen BK296.out 0
         have hfz76_1 := blk_frozen BK296.out 1
         have hfz76_2 := blk_frozen BK296.out 2
         have hfz76_3 := blk_frozen BK296.out 3
         have hfz76_4 := blk_frozen BK296.out 4
         have hnb77 := NB268_253.out
         have hnc77 := NB253_268.out
         have hnb78 := NB268_254.out
         have hnc78 := NB254_268.out
         have hnb79 := NB268_281.out
         have hnc79 := NB281_268.out
         have hcz80_0 : w61.cell? ⟨gb268, 0, none⟩ = some (.int .i64 t256) := (blk_cell BK268.out 0).trans rfl
         have hcz80_1 : w61.cell? ⟨gb268, 1, none⟩ = some (.int .i64 t257) := (blk_cell BK268.out 1).trans rfl
         have hcz80_2 : w61.cell? ⟨gb268, 2, none⟩ = some (u269002) := (blk_cell BK268.out 2).trans rfl
         have hcz80_3 : w61.cell? ⟨gb268, 3, none⟩ = some (u269003) := (blk_cell BK268.out 3).trans rfl
         have hcz80_4 : w61.cell? ⟨gb268, 4, none⟩ = some (u269004) := (blk_cell BK268.out 4).trans rfl
         have hfz80_0 := blk_frozen BK268.out 0
         have hfz80_1 := blk_frozen BK268.out 1
         have hfz80_2 := blk_frozen BK268.out 2
         have hfz80_3 := blk_frozen BK268.out 3
         have hfz80_4 := blk_frozen BK268.out 4
         obtain ⟨Ao81, co81, eo81⟩ := Kd.R_slice HO_269002.out
         subst eo81
         have hnb82 := NB254_253.out
         have hnc82 := NB253_254.out
         have hnb83 := NB254_281.out
         have hnc83 := NB281_254.out
         have hcz84_0 : w61.cell? ⟨gb254, 0, none⟩ = some (.int .i64 a1_0) := (blk_cell BK254.out 0).trans rfl
         have hcz84_1 : w61.cell? ⟨gb254, 1, none⟩ = some (.int .i64 a1_1) := (blk_cell BK254.out 1).trans rfl
         have hcz84_2 : w61.cell? ⟨gb254, 2, none⟩ = some (.int .i64 a1_2) := (blk_cell BK254.out 2).trans rfl
         have hcz84_3 : w61.cell? ⟨gb254, 3, none⟩ = some (.int .i64 a1_3) := (blk_cell BK254.out 3).trans rfl
         have hcz84_4 : w61.cell? ⟨gb254, 4, none⟩ = some (.int .i64 a1_4) := (blk_cell BK254.out 4).trans rfl
         have hcz84_5 : w61.cell? ⟨gb254, 5, none⟩ = some (.int .i64 a1_5) := (blk_cell BK254.out 5).trans rfl
         have hfz84_0 := blk_frozen BK254.out 0
         have hfz84_1 := blk_frozen BK254.out 1
         have hfz84_2 := blk_frozen BK254.out 2
         have hfz84_3 := blk_frozen BK254.out 3
         have hfz84_4 := blk_frozen BK254.out 4
         have hfz84_5 := blk_frozen BK254.out 5
         go_wp2
         go_meet
         case rel => exact ⟨_, (((x269002_1.length : Int) != (wrap64 (a1_2 * a1_3)))), (by first | rfl | (simp; done) | (simp [*]; done)), H', ⟨by have := HK1.out; first | omega | exact Nat.le_refl _⟩, ⟨by (with_reducible repeat (first | apply Kd.R_alloc | apply Kd.R_drewN | apply Kd.R_drew)); exact Kd.R_mono (Kd.R_far (p := ⟨gb296, 4, none⟩) (Kd.R_far (p := ⟨gb296, 3, none⟩) (Kd.R_far (p := ⟨gb296, 2, none⟩) (Kd.R_far (p := ⟨gb296, 1, none⟩) (Kd.R_far (p := ⟨gb296, 0, none⟩) (Kd.R_types HO_269002.out BK296.out (by decide)) (fun _ hk => hk.2) (.int .i64 t284)) (fun _ hk => hk.2) (.int .i64 t285)) (fun _ hk => hk.2) (.slice Ao67 t286.length co67)) (fun _ hk => hk.2) (.slice Ao68 t289.length co68)) (fun _ hk => hk.2) (.slice Ao69 t292.length co69)) (fun _ hk => ⟨hk.1.1.1.1.1, ⟨hk.1.1.1.1.2.1, ⟨hk.1.1.1.1.2.2.1, ⟨hk.1.1.1.1.2.2.2.1, ⟨hk.1.1.1.1.2.2.2.2, ⟨hk.1.1.1.2, ⟨hk.1.1.2, hk.1.2⟩⟩⟩⟩⟩⟩⟩)⟩, ⟨by (with_reducible repeat (first | apply Kd.R_alloc | apply Kd.R_drewN | apply Kd.R_drew)); exact Kd.R_mono (Kd.R_far (p := ⟨gb296, 4, none⟩) (Kd.R_far (p := ⟨gb296, 3, none⟩) (Kd.R_far (p := ⟨gb296, 2, none⟩) (Kd.R_far (p := ⟨gb296, 1, none⟩) (Kd.R_far (p := ⟨gb296, 0, none⟩) (Kd.R_types HO_269003.out BK296.out (by decide)) (fun _ hk => hk.2) (.int .i64 t284)) (fun _ hk => hk.2) (.int .i64 t285)) (fun _ hk => hk.2) (.slice Ao67 t286.length co67)) (fun _ hk => hk.2) (.slice Ao68 t289.length co68)) (fun _ hk => hk.2) (.slice Ao69 t292.length co69)) (fun _ hk => ⟨hk.1.1.1.1.1, ⟨hk.1.1.1.1.2.1, ⟨hk.1.1.1.1.2.2.1, ⟨hk.1.1.1.1.2.2.2.1, ⟨hk.1.1.1.1.2.2.2.2, ⟨hk.1.1.1.2, ⟨hk.1.1.2, hk.1.2⟩⟩⟩⟩⟩⟩⟩)⟩, ⟨by (with_reducible repeat (first | apply Kd.R_alloc | apply Kd.R_drewN | apply Kd.R_drew)); exact Kd.R_mono (Kd.R_far (p := ⟨gb296, 4, none⟩) (Kd.R_far (p := ⟨gb296, 3, none⟩) (Kd.R_far (p := ⟨gb296, 2, none⟩) (Kd.R_far (p := ⟨gb296, 1, none⟩) (Kd.R_far (p := ⟨gb296, 0, none⟩) (Kd.R_types HO_269004.out BK296.out (by decide)) (fun _ hk => hk.2) (.int .i64 t284)) (fun _ hk => hk.2) (.int .i64 t285)) (fun _ hk => hk.2) (.slice Ao67 t286.length co67)) (fun _ hk => hk.2) (.slice Ao68 t289.length co68)) (fun _ hk => hk.2) (.slice Ao69 t292.length co69)) (fun _ hk => ⟨hk.1.1.1.1.1, ⟨hk.1.1.1.1.2.1, ⟨hk.1.1.1.1.2.2.1, ⟨hk.1.1.1.1.2.2.2.1, ⟨hk.1.1.1.1.2.2.2.2, ⟨hk.1.1.1.2, ⟨hk.1.1.2, hk.1.2⟩⟩⟩⟩⟩⟩⟩)⟩, ⟨by (with_reducible repeat (first | apply Kd.R_alloc | apply Kd.R_drewN | apply Kd.R_drew)); exact Kd.R_mono (Kd.R_far (p := ⟨gb296, 4, none⟩) (Kd.R_far (p := ⟨gb296, 3, none⟩) (Kd.R_far (p := ⟨gb296, 2, none⟩) (Kd.R_far (p := ⟨gb296, 1, none⟩) (Kd.R_far (p := ⟨gb296, 0, none⟩) (Kd.R_types HO_282002.out BK296.out (by decide)) (fun _ hk => hk.2) (.int .i64 t284)) (fun _ hk => hk.2) (.int .i64 t285)) (fun _ hk => hk.2) (.slice Ao67 t286.length co67)) (fun _ hk => hk.2) (.slice Ao68 t289.length co68)) (fun _ hk => hk.2) (.slice Ao69 t292.length co69)) (fun _ hk => ⟨hk.1.1.1.1.1, ⟨hk.1.1.1.1.2.1, ⟨hk.1.1.1.1.2.2.1, ⟨hk.1.1.1.1.2.2.2.1, ⟨hk.1.1.1.1.2.2.2.2, ⟨hk.1.1.1.2, ⟨hk.1.1.2, hk.1.2⟩⟩⟩⟩⟩⟩⟩)⟩, ⟨by (with_reducible repeat (first | apply Kd.R_alloc | apply Kd.R_drewN | apply Kd.R_drew)); exact Kd.R_mono (Kd.R_far (p := ⟨gb296, 4, none⟩) (Kd.R_far (p := ⟨gb296, 3, none⟩) (Kd.R_far (p := ⟨gb296, 2, none⟩) (Kd.R_far (p := ⟨gb296, 1, none⟩) (Kd.R_far (p := ⟨gb296, 0, none⟩) (Kd.R_types HO_282003.out BK296.out (by decide)) (fun _ hk => hk.2) (.int .i64 t284)) (fun _ hk => hk.2) (.int .i64 t285)) (fun _ hk => hk.2) (.slice Ao67 t286.length co67)) (fun _ hk => hk.2) (.slice Ao68 t289.length co68)) (fun _ hk => hk.2) (.slice Ao69 t292.length co69)) (fun _ hk => ⟨hk.1.1.1.1.1, ⟨hk.1.1.1.1.2.1, ⟨hk.1.1.1.1.2.2.1, ⟨hk.1.1.1.1.2.2.2.1, ⟨hk.1.1.1.1.2.2.2.2, ⟨hk.1.1.1.2, ⟨hk.1.1.2, hk.1.2⟩⟩⟩⟩⟩⟩⟩)⟩, ⟨by (with_reducible repeat (first | apply Kd.R_alloc | apply Kd.R_drewN | apply Kd.R_drew)); exact Kd.R_mono (Kd.R_far (p := ⟨gb296, 4, none⟩) (Kd.R_far (p := ⟨gb296, 3, none⟩) (Kd.R_far (p := ⟨gb296, 2, none⟩) (Kd.R_far (p := ⟨gb296, 1, none⟩) (Kd.R_far (p := ⟨gb296, 0, none⟩) (Kd.R_types HO_282004.out BK296.out (by decide)) (fun _ hk => hk.2) (.int .i64 t284)) (fun _ hk => hk.2) (.int .i64 t285)) (fun _ hk => hk.2) (.slice Ao67 t286.length co67)) (fun _ hk => hk.2) (.slice Ao68 t289.length co68)) (fun _ hk => hk.2) (.slice Ao69 t292.length co69)) (fun _ hk => ⟨hk.1.1.1.1.1, ⟨hk.1.1.1.1.2.1, ⟨hk.1.1.1.1.2.2.1, ⟨hk.1.1.1.1.2.2.2.1, ⟨hk.1.1.1.1.2.2.2.2, ⟨hk.1.1.1.2, ⟨hk.1.1.2, hk.1.2⟩⟩⟩⟩⟩⟩⟩)⟩, ⟨by (with_reducible repeat (first | apply Kd.R_alloc | apply Kd.R_drewN | apply Kd.R_drew)); exact Kd.R_mono (Kd.R_far (p := ⟨gb296, 4, none⟩) (Kd.R_far (p := ⟨gb296, 3, none⟩) (Kd.R_far (p := ⟨gb296, 2, none⟩) (Kd.R_far (p := ⟨gb296, 1, none⟩) (Kd.R_far (p := ⟨gb296, 0, none⟩) (Kd.R_types HO288.out BK296.out (by decide)) (fun _ hk => hk.2) (.int .i64 t284)) (fun _ hk => hk.2) (.int .i64 t285)) (fun _ hk => hk.2) (.slice Ao67 t286.length co67)) (fun _ hk => hk.2) (.slice Ao68 t289.length co68)) (fun _ hk => hk.2) (.slice Ao69 t292.length co69)) (fun _ hk => ⟨hk.1.1.1.1.1.1.2, ⟨hk.1.1.1.1.1.2, ⟨hk.1.1.1.1.2, ⟨hk.1.1.1.2, ⟨hk.1.1.2, ⟨hk.1.2, ⟨hk.1.1.1.1.1.1.1.1, hk.1.1.1.1.1.1.1.2⟩⟩⟩⟩⟩⟩⟩)⟩, ⟨by (with_reducible repeat (first | apply Kd.R_alloc | apply Kd.R_drewN | apply Kd.R_drew)); exact Kd.R_mono (Kd.R_far (p := ⟨gb296, 4, none⟩) (Kd.R_far (p := ⟨gb296, 3, none⟩) (Kd.R_far (p := ⟨gb296, 2, none⟩) (Kd.R_far (p := ⟨gb296, 1, none⟩) (Kd.R_far (p := ⟨gb296, 0, none⟩) (Kd.R_types HO291.out BK296.out (by decide)) (fun _ hk => hk.2) (.int .i64 t284)) (fun _ hk => hk.2) (.int .i64 t285)) (fun _ hk => hk.2) (.slice Ao67 t286.length co67)) (fun _ hk => hk.2) (.slice Ao68 t289.length co68)) (fun _ hk => hk.2) (.slice Ao69 t292.length co69)) (fun _ hk => ⟨hk.1.1.1.1.1.1.2, ⟨hk.1.1.1.1.1.2, ⟨hk.1.1.1.1.2, ⟨hk.1.1.1.2, ⟨hk.1.1.2, ⟨hk.1.2, ⟨hk.1.1.1.1.1.1.1.1, hk.1.1.1.1.1.1.1.2⟩⟩⟩⟩⟩⟩⟩)⟩, ⟨by (with_reducible repeat (first | apply Kd.R_alloc | apply Kd.R_drewN | apply Kd.R_drew)); exact Kd.R_mono (Kd.R_far (p := ⟨gb296, 4, none⟩) (Kd.R_far (p := ⟨gb296, 3, none⟩) (Kd.R_far (p := ⟨gb296, 2, none⟩) (Kd.R_far (p := ⟨gb296, 1, none⟩) (Kd.R_far (p := ⟨gb296, 0, none⟩) (Kd.R_types HO294.out BK296.out (by decide)) (fun _ hk => hk.2) (.int .i64 t284)) (fun _ hk => hk.2) (.int .i64 t285)) (fun _ hk => hk.2) (.slice Ao67 t286.length co67)) (fun _ hk => hk.2) (.slice Ao68 t289.length co68)) (fun _ hk => hk.2) (.slice Ao69 t292.length co69)) (fun _ hk => ⟨hk.1.1.1.1.1.1.2, ⟨hk.1.1.1.1.1.2, ⟨hk.1.1.1.1.2, ⟨hk.1.1.1.2, ⟨hk.1.1.2, ⟨hk.1.2, ⟨hk.1.1.1.1.1.1.1.1, hk.1.1.1.1.1.1.1.2⟩⟩⟩⟩⟩⟩⟩)⟩, ⟨by (with_reducible repeat (first | refine blk_drewN ?_ _ | refine blk_drew ?_ | refine blk_alloc ?_ _)); refine blk_far ?_ NB253_296.out _; (with_reducible repeat (first | refine blk_drewN ?_ _ | refine blk_drew ?_ | refine blk_alloc ?_ _)); refine blk_far ?_ NB253_296.out _; (with_reducible repeat (first | refine blk_drewN ?_ _ | refine blk_drew ?_ | refine blk_alloc ?_ _)); refine blk_far ?_ NB253_296.out _; (with_reducible repeat (first | refine blk_drewN ?_ _ | refine blk_drew ?_ | refine blk_alloc ?_ _)); refine blk_far ?_ NB253_296.out _; (with_reducible repeat (first | refine blk_drewN ?_ _ | refine blk_drew ?_ | refine blk_alloc ?_ _)); refine blk_far ?_ NB253_296.out _; (with_reducible repeat (first | refine blk_drewN ?_ _ | refine blk_drew ?_ | refine blk_alloc ?_ _)); exact BK253.out⟩, ⟨by (with_reducible repeat (first | refine blk_drewN ?_ _ | refine blk_drew ?_ | refine blk_alloc ?_ _)); refine blk_far ?_ NB254_296.out _; (with_reducible repeat (first | refine blk_drewN ?_ _ | refine blk_drew ?_ | refine blk_alloc ?_ _)); refine blk_far ?_ NB254_296.out _; (with_reducible repeat (first | refine blk_drewN ?_ _ | refine blk_drew ?_ | refine blk_alloc ?_ _)); refine blk_far ?_ NB254_296.out _; (with_reducible repeat (first | refine blk_drewN ?_ _ | refine blk_drew ?_ | refine blk_alloc ?_ _)); refine blk_far ?_ NB254_296.out _; (with_reducible repeat (first | refine blk_drewN ?_ _ | refine blk_drew ?_ | refine blk_alloc ?_ _)); refine blk_far ?_ NB254_296.out _; (with_reducible repeat (first | refine blk_drewN ?_ _ | refine blk_drew ?_ | refine blk_alloc ?_ _)); exact BK254.out⟩, ⟨by (with_reducible repeat (first | refine blk_drewN ?_ _ | refine blk_drew ?_ | refine blk_alloc ?_ _)); refine blk_far ?_ NB268_296.out _; (with_reducible repeat (first | refine blk_drewN ?_ _ | refine blk_drew ?_ | refine blk_alloc ?_ _)); refine blk_far ?_ NB268_296.out _; (with_reducible repeat (first | refine blk_drewN ?_ _ | refine blk_drew ?_ | refine blk_alloc ?_ _)); refine blk_far ?_ NB268_296.out _; (with_reducible repeat (first | refine blk_drewN ?_ _ | refine blk_drew ?_ | refine blk_alloc ?_ _)); refine blk_far ?_ NB268_296.out _; (with_reducible repeat (first | refine blk_drewN ?_ _ | refine blk_drew ?_ | refine blk_alloc ?_ _)); refine blk_far ?_ NB268_296.out _; (with_reducible repeat (first | refine blk_drewN ?_ _ | refine blk_drew ?_ | refine blk_alloc ?_ _)); exact BK268.out⟩, ⟨by (with_reducible repeat (first | refine blk_drewN ?_ _ | refine blk_drew ?_ | refine blk_alloc ?_ _)); refine blk_far ?_ NB281_296.out _; (with_reducible repeat (first | refine blk_drewN ?_ _ | refine blk_drew ?_ | refine blk_alloc ?_ _)); refine blk_far ?_ NB281_296.out _; (with_reducible repeat (first | refine blk_drewN ?_ _ | refine blk_drew ?_ | refine blk_alloc ?_ _)); refine blk_far ?_ NB281_296.out _; (with_reducible repeat (first | refine blk_drewN ?_ _ | refine blk_drew ?_ | refine blk_alloc ?_ _)); refine blk_far ?_ NB281_296.out _; (with_reducible repeat (first | refine blk_drewN ?_ _ | refine blk_drew ?_ | refine blk_alloc ?_ _)); refine blk_far ?_ NB281_296.out _; (with_reducible repeat (first | refine blk_drewN ?_ _ | refine blk_drew ?_ | refine blk_alloc ?_ _)); exact BK281.out⟩, ⟨by (with_reducible repeat (first | refine blk_drewN ?_ _ | refine blk_drew ?_ | refine blk_alloc ?_ _)); refine blk_put (cs := #[.int .i64 t284, .int .i64 t285, .slice Ao67 t286.length co67, .slice Ao68 t289.length co68, .slice none 0 0]) ?_ 4 _ rfl; (with_reducible repeat (first | refine blk_drewN ?_ _ | refine blk_drew ?_ | refine blk_alloc ?_ _)); refine blk_put (cs := #[.int .i64 t284, .int .i64 t285, .slice Ao67 t286.length co67, .slice none 0 0, .slice none 0 0]) ?_ 3 _ rfl; (with_reducible repeat (first | refine blk_drewN ?_ _ | refine blk_drew ?_ | refine blk_alloc ?_ _)); refine blk_put (cs := #[.int .i64 t284, .int .i64 t285, .slice none 0 0, .slice none 0 0, .slice none 0 0]) ?_ 2 _ rfl; (with_reducible repeat (first | refine blk_drewN ?_ _ | refine blk_drew ?_ | refine blk_alloc ?_ _)); refine blk_put (cs := #[.int .i64 t284, .int .i64 0, .slice none 0 0, .slice none 0 0, .slice none 0 0]) ?_ 1 _ rfl; (with_reducible repeat (first | refine blk_drewN ?_ _ | refine blk_drew ?_ | refine blk_alloc ?_ _)); refine blk_put (cs := #[.int .i64 0, .int .i64 0, .slice none 0 0, .slice none 0 0, .slice none 0 0]) ?_ 0 _ rfl; (with_reducible repeat (first | refine blk_drewN ?_ _ | refine blk_drew ?_ | refine blk_alloc ?_ _)); exact BK296.out⟩, ⟨by repeat (first | (with_reducible first | exact HB.out | apply below_alloc | apply pw_below_drewN | apply below_drew1 | refine below_set ?_ GE253.out | refine below_set ?_ GE254.out | refine below_set ?_ GE268.out | refine below_set ?_ GE281.out | refine below_set ?_ GE296.out) | exact HB.out)⟩⟩
        ·
         rw [if_neg c71] at H
         have c71b0 : ((t286.length : Int) == (x269002_1.length : Int)) = false := beq_eq_false_iff_ne.mpr c71
         have c71b1 : ((t286.length : Int) != (x269002_1.length : Int)) = true := bne_iff_ne.mpr c71
         have c71b2 : (t286.length == x269002_1.length) = false := by first | simpa using c71 | (simp at c71 ⊢; omega)
         have H' := Aside0.mk H
         clear H
         have hnb85 := NB296_253.out
         have hnc85 := NB253_296.out
         have hnb86 := NB296_254.out
         have hnc86 := NB254_296.out
         have hnb87 := NB296_268.out
         have hnc87 := NB268_296.out
         have hnb88 := NB296_281.out
         have hnc88 := NB281_296.out
         have hcz89_0 : w61.cell? ⟨gb296, 0, none⟩ = some (.int .i64 0) := (blk_cell BK296.out 0).trans rfl
         have hcz89_1 : w61.cell? ⟨gb296, 1, none⟩ = some (.int .i64 0) := (blk_cell BK296.out 1).trans rfl
         have hcz89_2 : w61.cell? ⟨gb296, 2, none⟩ = some (.slice none 0 0) := (blk_cell BK296.out 2).trans rfl
         have hcz89_3 : w61.cell? ⟨gb296, 3, none⟩ = some (.slice none 0 0) := (blk_cell BK296.out 3).trans rfl
         have hcz89_4 : w61.cell? ⟨gb296, 4, none⟩ = some (.slice none 0 0) := (blk_cell BK296.out 4).trans rfl
         have hfz89_0 := blk_frozen BK296.out 0
         have hfz89_1 := blk_frozen BK296.out 1
         have hfz89_2 := blk_frozen BK296.out 2
         have hfz89_3 := blk_frozen BK296.out 3
         have hfz89_4 := blk_frozen BK296.out 4
         have hnb90 := NB268_253.out
         have hnc90 := NB253_268.out
         have hnb91 := NB268_254.out
         have hnc91 := NB254_268.out
         have hnb92 := NB268_281.out
         have hnc92 := NB281_268.out
         have hcz93_0 : w61.cell? ⟨gb268, 0, none⟩ = some (.int .i64 t256) := (blk_cell BK268.out 0).trans rfl
         have hcz93_1 : w61.cell? ⟨gb268, 1, none⟩ = some (.int .i64 t257) := (blk_cell BK268.out 1).trans rfl
         have hcz93_2 : w61.cell? ⟨gb268, 2, none⟩ = some (u269002) := (blk_cell BK268.out 2).trans rfl
         have hcz93_3 : w61.cell? ⟨gb268, 3, none⟩ = some (u269003) := (blk_cell BK268.out 3).trans rfl
         have hcz93_4 : w61.cell? ⟨gb268, 4, none⟩ = some (u269004) := (blk_cell BK268.out 4).trans rfl
         have hfz93_0 := blk_frozen BK268.out 0
         have hfz93_1 := blk_frozen BK268.out 1
         have hfz93_2 := blk_frozen BK268.out 2
         have hfz93_3 := blk_frozen BK268.out 3
         have hfz93_4 := blk_frozen BK268.out 4
         obtain ⟨Ao94, co94, eo94⟩ := Kd.R_slice HO_269002.out
         subst eo94
         go_wp2
         go_meet
         case rel => exact ⟨_, (true), (by first | rfl | (simp; done) | (simp [*]; done)), H', ⟨by have := HK1.out; first | omega | exact Nat.le_refl _⟩, ⟨by (with_reducible repeat (first | apply Kd.R_alloc | apply Kd.R_drewN | apply Kd.R_drew)); exact Kd.R_mono (Kd.R_far (p := ⟨gb296, 4, none⟩) (Kd.R_far (p := ⟨gb296, 3, none⟩) (Kd.R_far (p := ⟨gb296, 2, none⟩) (Kd.R_far (p := ⟨gb296, 1, none⟩) (Kd.R_far (p := ⟨gb296, 0, none⟩) (Kd.R_types HO_269002.out BK296.out (by decide)) (fun _ hk => hk.2) (.int .i64 t284)) (fun _ hk => hk.2) (.int .i64 t285)) (fun _ hk => hk.2) (.slice Ao67 t286.length co67)) (fun _ hk => hk.2) (.slice Ao68 t289.length co68)) (fun _ hk => hk.2) (.slice Ao69 t292.length co69)) (fun _ hk => ⟨hk.1.1.1.1.1, ⟨hk.1.1.1.1.2.1, ⟨hk.1.1.1.1.2.2.1, ⟨hk.1.1.1.1.2.2.2.1, ⟨hk.1.1.1.1.2.2.2.2, ⟨hk.1.1.1.2, ⟨hk.1.1.2, hk.1.2⟩⟩⟩⟩⟩⟩⟩)⟩, ⟨by (with_reducible repeat (first | apply Kd.R_alloc | apply Kd.R_drewN | apply Kd.R_drew)); exact Kd.R_mono (Kd.R_far (p := ⟨gb296, 4, none⟩) (Kd.R_far (p := ⟨gb296, 3, none⟩) (Kd.R_far (p := ⟨gb296, 2, none⟩) (Kd.R_far (p := ⟨gb296, 1, none⟩) (Kd.R_far (p := ⟨gb296, 0, none⟩) (Kd.R_types HO_269003.out BK296.out (by decide)) (fun _ hk => hk.2) (.int .i64 t284)) (fun _ hk => hk.2) (.int .i64 t285)) (fun _ hk => hk.2) (.slice Ao67 t286.length co67)) (fun _ hk => hk.2) (.slice Ao68 t289.length co68)) (fun _ hk => hk.2) (.slice Ao69 t292.length co69)) (fun _ hk => ⟨hk.1.1.1.1.1, ⟨hk.1.1.1.1.2.1, ⟨hk.1.1.1.1.2.2.1, ⟨hk.1.1.1.1.2.2.2.1, ⟨hk.1.1.1.1.2.2.2.2, ⟨hk.1.1.1.2, ⟨hk.1.1.2, hk.1.2⟩⟩⟩⟩⟩⟩⟩)⟩, ⟨by (with_reducible repeat (first | apply Kd.R_alloc | apply Kd.R_drewN | apply Kd.R_drew)); exact Kd.R_mono (Kd.R_far (p := ⟨gb296, 4, none⟩) (Kd.R_far (p := ⟨gb296, 3, none⟩) (Kd.R_far (p := ⟨gb296, 2, none⟩) (Kd.R_far (p := ⟨gb296, 1, none⟩) (Kd.R_far (p := ⟨gb296, 0, none⟩) (Kd.R_types HO_269004.out BK296.out (by decide)) (fun _ hk => hk.2) (.int .i64 t284)) (fun _ hk => hk.2) (.int .i64 t285)) (fun _ hk => hk.2) (.slice Ao67 t286.length co67)) (fun _ hk => hk.2) (.slice Ao68 t289.length co68)) (fun _ hk => hk.2) (.slice Ao69 t292.length co69)) (fun _ hk => ⟨hk.1.1.1.1.1, ⟨hk.1.1.1.1.2.1, ⟨hk.1.1.1.1.2.2.1, ⟨hk.1.1.1.1.2.2.2.1, ⟨hk.1.1.1.1.2.2.2.2, ⟨hk.1.1.1.2, ⟨hk.1.1.2, hk.1.2⟩⟩⟩⟩⟩⟩⟩)⟩, ⟨by (with_reducible repeat (first | apply Kd.R_alloc | apply Kd.R_drewN | apply Kd.R_drew)); exact Kd.R_mono (Kd.R_far (p := ⟨gb296, 4, none⟩) (Kd.R_far (p := ⟨gb296, 3, none⟩) (Kd.R_far (p := ⟨gb296, 2, none⟩) (Kd.R_far (p := ⟨gb296, 1, none⟩) (Kd.R_far (p := ⟨gb296, 0, none⟩) (Kd.R_types HO_282002.out BK296.out (by decide)) (fun _ hk => hk.2) (.int .i64 t284)) (fun _ hk => hk.2) (.int .i64 t285)) (fun _ hk => hk.2) (.slice Ao67 t286.length co67)) (fun _ hk => hk.2) (.slice Ao68 t289.length co68)) (fun _ hk => hk.2) (.slice Ao69 t292.length co69)) (fun _ hk => ⟨hk.1.1.1.1.1, ⟨hk.1.1.1.1.2.1, ⟨hk.1.1.1.1.2.2.1, ⟨hk.1.1.1.1.2.2.2.1, ⟨hk.1.1.1.1.2.2.2.2, ⟨hk.1.1.1.2, ⟨hk.1.1.2, hk.1.2⟩⟩⟩⟩⟩⟩⟩)⟩, ⟨by (with_reducible repeat (first | apply Kd.R_alloc | apply Kd.R_drewN | apply Kd.R_drew)); exact Kd.R_mono (Kd.R_far (p := ⟨gb296, 4, none⟩) (Kd.R_far (p := ⟨gb296, 3, none⟩) (Kd.R_far (p := ⟨gb296, 2, none⟩) (Kd.R_far (p := ⟨gb296, 1, none⟩) (Kd.R_far (p := ⟨gb296, 0, none⟩) (Kd.R_types HO_282003.out BK296.out (by decide)) (fun _ hk => hk.2) (.int .i64 t284)) (fun _ hk => hk.2) (.int .i64 t285)) (fun _ hk => hk.2) (.slice Ao67 t286.length co67)) (fun _ hk => hk.2) (.slice Ao68 t289.length co68)) (fun _ hk => hk.2) (.slice Ao69 t292.length co69)) (fun _ hk => ⟨hk.1.1.1.1.1, ⟨hk.1.1.1.1.2.1, ⟨hk.1.1.1.1.2.2.1, ⟨hk.1.1.1.1.2.2.2.1, ⟨hk.1.1.1.1.2.2.2.2, ⟨hk.1.1.1.2, ⟨hk.1.1.2, hk.1.2⟩⟩⟩⟩⟩⟩⟩)⟩, ⟨by (with_reducible repeat (first | apply Kd.R_alloc | apply Kd.R_drewN | apply Kd.R_drew)); exact Kd.R_mono (Kd.R_far (p := ⟨gb296, 4, none⟩) (Kd.R_far (p := ⟨gb296, 3, none⟩) (Kd.R_far (p := ⟨gb296, 2, none⟩) (Kd.R_far (p := ⟨gb296, 1, none⟩) (Kd.R_far (p := ⟨gb296, 0, none⟩) (Kd.R_types HO_282004.out BK296.out (by decide)) (fun _ hk => hk.2) (.int .i64 t284)) (fun _ hk => hk.2) (.int .i64 t285)) (fun _ hk => hk.2) (.slice Ao67 t286.length co67)) (fun _ hk => hk.2) (.slice Ao68 t289.length co68)) (fun _ hk => hk.2) (.slice Ao69 t292.length co69)) (fun _ hk => ⟨hk.1.1.1.1.1, ⟨hk.1.1.1.1.2.1, ⟨hk.1.1.1.1.2.2.1, ⟨hk.1.1.1.1.2.2.2.1, ⟨hk.1.1.1.1.2.2.2.2, ⟨hk.1.1.1.2, ⟨hk.1.1.2, hk.1.2⟩⟩⟩⟩⟩⟩⟩)⟩, ⟨by (with_reducible repeat (first | apply Kd.R_alloc | apply Kd.R_drewN | apply Kd.R_drew)); exact Kd.R_mono (Kd.R_far (p := ⟨gb296, 4, none⟩) (Kd.R_far (p := ⟨gb296, 3, none⟩) (Kd.R_far (p := ⟨gb296, 2, none⟩) (Kd.R_far (p := ⟨gb296, 1, none⟩) (Kd.R_far (p := ⟨gb296, 0, none⟩) (Kd.R_types HO288.out BK296.out (by decide)) (fun _ hk => hk.2) (.int .i64 t284)) (fun _ hk => hk.2) (.int .i64 t285)) (fun _ hk => hk.2) (.slice Ao67 t286.length co67)) (fun _ hk => hk.2) (.slice Ao68 t289.length co68)) (fun _ hk => hk.2) (.slice Ao69 t292.length co69)) (fun _ hk => ⟨hk.1.1.1.1.1.1.2, ⟨hk.1.1.1.1.1.2, ⟨hk.1.1.1.1.2, ⟨hk.1.1.1.2, ⟨hk.1.1.2, ⟨hk.1.2, ⟨hk.1.1.1.1.1.1.1.1, hk.1.1.1.1.1.1.1.2⟩⟩⟩⟩⟩⟩⟩)⟩, ⟨by (with_reducible repeat (first | apply Kd.R_alloc | apply Kd.R_drewN | apply Kd.R_drew)); exact Kd.R_mono (Kd.R_far (p := ⟨gb296, 4, none⟩) (Kd.R_far (p := ⟨gb296, 3, none⟩) (Kd.R_far (p := ⟨gb296, 2, none⟩) (Kd.R_far (p := ⟨gb296, 1, none⟩) (Kd.R_far (p := ⟨gb296, 0, none⟩) (Kd.R_types HO291.out BK296.out (by decide)) (fun _ hk => hk.2) (.int .i64 t284)) (fun _ hk => hk.2) (.int .i64 t285)) (fun _ hk => hk.2) (.slice Ao67 t286.length co67)) (fun _ hk => hk.2) (.slice Ao68 t289.length co68)) (fun _ hk => hk.2) (.slice Ao69 t292.length co69)) (fun _ hk => ⟨hk.1.1.1.1.1.1.2, ⟨hk.1.1.1.1.1.2, ⟨hk.1.1.1.1.2, ⟨hk.1.1.1.2, ⟨hk.1.1.2, ⟨hk.1.2, ⟨hk.1.1.1.1.1.1.1.1, hk.1.1.1.1.1.1.1.2⟩⟩⟩⟩⟩⟩⟩)⟩, ⟨by (with_reducible repeat (first | apply Kd.R_alloc | apply Kd.R_drewN | apply Kd.R_drew)); exact Kd.R_mono (Kd.R_far (p := ⟨gb296, 4, none⟩) (Kd.R_far (p := ⟨gb296, 3, none⟩) (Kd.R_far (p := ⟨gb296, 2, none⟩) (Kd.R_far (p := ⟨gb296, 1, none⟩) (Kd.R_far (p := ⟨gb296, 0, none⟩) (Kd.R_types HO294.out BK296.out (by decide)) (fun _ hk => hk.2) (.int .i64 t284)) (fun _ hk => hk.2) (.int .i64 t285)) (fun _ hk => hk.2) (.slice Ao67 t286.length co67)) (fun _ hk => hk.2) (.slice Ao68 t289.length co68)) (fun _ hk => hk.2) (.slice Ao69 t292.length co69)) (fun _ hk => ⟨hk.1.1.1.1.1.1.2, ⟨hk.1.1.1.1.1.2, ⟨hk.1.1.1.1.2, ⟨hk.1.1.1.2, ⟨hk.1.1.2, ⟨hk.1.2, ⟨hk.1.1.1.1.1.1.1.1, hk.1.1.1.1.1.1.1.2⟩⟩⟩⟩⟩⟩⟩)⟩, ⟨by (with_reducible repeat (first | refine blk_drewN ?_ _ | refine blk_drew ?_ | refine blk_alloc ?_ _)); refine blk_far ?_ NB253_296.out _; (with_reducible repeat (first | refine blk_drewN ?_ _ | refine blk_drew ?_ | refine blk_alloc ?_ _)); refine blk_far ?_ NB253_296.out _; (with_reducible repeat (first | refine blk_drewN ?_ _ | refine blk_drew ?_ | refine blk_alloc ?_ _)); refine blk_far ?_ NB253_296.out _; (with_reducible repeat (first | refine blk_drewN ?_ _ | refine blk_drew ?_ | refine blk_alloc ?_ _)); refine blk_far ?_ NB253_296.out _; (with_reducible repeat (first | refine blk_drewN ?_ _ | refine blk_drew ?_ | refine blk_alloc ?_ _)); refine blk_far ?_ NB253_296.out _; (with_reducible repeat (first | refine blk_drewN ?_ _ | refine blk_drew ?_ | refine blk_alloc ?_ _)); exact BK253.out⟩, ⟨by (with_reducible repeat (first | refine blk_drewN ?_ _ | refine blk_drew ?_ | refine blk_alloc ?_ _)); refine blk_far ?_ NB254_296.out _; (with_reducible repeat (first | refine blk_drewN ?_ _ | refine blk_drew ?_ | refine blk_alloc ?_ _)); refine blk_far ?_ NB254_296.out _; (with_reducible repeat (first | refine blk_drewN ?_ _ | refine blk_drew ?_ | refine blk_alloc ?_ _)); refine blk_far ?_ NB254_296.out _; (with_reducible repeat (first | refine blk_drewN ?_ _ | refine blk_drew ?_ | refine blk_alloc ?_ _)); refine blk_far ?_ NB254_296.out _; (with_reducible repeat (first | refine blk_drewN ?_ _ | refine blk_drew ?_ | refine blk_alloc ?_ _)); refine blk_far ?_ NB254_296.out _; (with_reducible repeat (first | refine blk_drewN ?_ _ | refine blk_drew ?_ | refine blk_alloc ?_ _)); exact BK254.out⟩, ⟨by (with_reducible repeat (first | refine blk_drewN ?_ _ | refine blk_drew ?_ | refine blk_alloc ?_ _)); refine blk_far ?_ NB268_296.out _; (with_reducible repeat (first | refine blk_drewN ?_ _ | refine blk_drew ?_ | refine blk_alloc ?_ _)); refine blk_far ?_ NB268_296.out _; (with_reducible repeat (first | refine blk_drewN ?_ _ | refine blk_drew ?_ | refine blk_alloc ?_ _)); refine blk_far ?_ NB268_296.out _; (with_reducible repeat (first | refine blk_drewN ?_ _ | refine blk_drew ?_ | refine blk_alloc ?_ _)); refine blk_far ?_ NB268_296.out _; (with_reducible repeat (first | refine blk_drewN ?_ _ | refine blk_drew ?_ | refine blk_alloc ?_ _)); refine blk_far ?_ NB268_296.out _; (with_reducible repeat (first | refine blk_drewN ?_ _ | refine blk_drew ?_ | refine blk_alloc ?_ _)); exact BK268.out⟩, ⟨by (with_reducible repeat (first | refine blk_drewN ?_ _ | refine blk_drew ?_ | refine blk_alloc ?_ _)); refine blk_far ?_ NB281_296.out _; (with_reducible repeat (first | refine blk_drewN ?_ _ | refine blk_drew ?_ | refine blk_alloc ?_ _)); refine blk_far ?_ NB281_296.out _; (with_reducible repeat (first | refine blk_drewN ?_ _ | refine blk_drew ?_ | refine blk_alloc ?_ _)); refine blk_far ?_ NB281_296.out _; (with_reducible repeat (first | refine blk_drewN ?_ _ | refine blk_drew ?_ | refine blk_alloc ?_ _)); refine blk_far ?_ NB281_296.out _; (with_reducible repeat (first | refine blk_drewN ?_ _ | refine blk_drew ?_ | refine blk_alloc ?_ _)); refine blk_far ?_ NB281_296.out _; (with_reducible repeat (first | refine blk_drewN ?_ _ | refine blk_drew ?_ | refine blk_alloc ?_ _)); exact BK281.out⟩, ⟨by (with_reducible repeat (first | refine blk_drewN ?_ _ | refine blk_drew ?_ | refine blk_alloc ?_ _)); refine blk_put (cs := #[.int .i64 t284, .int .i64 t285, .slice Ao67 t286.length co67, .slice Ao68 t289.length co68, .slice none 0 0]) ?_ 4 _ rfl; (with_reducible repeat (first | refine blk_drewN ?_ _ | refine blk_drew ?_ | refine blk_alloc ?_ _)); refine blk_put (cs := #[.int .i64 t284, .int .i64 t285, .slice Ao67 t286.length co67, .slice none 0 0, .slice none 0 0]) ?_ 3 _ rfl; (with_reducible repeat (first | refine blk_drewN ?_ _ | refine blk_drew ?_ | refine blk_alloc ?_ _)); refine blk_put (cs := #[.int .i64 t284, .int .i64 t285, .slice none 0 0, .slice none 0 0, .slice none 0 0]) ?_ 2 _ rfl; (with_reducible repeat (first | refine blk_drewN ?_ _ | refine blk_drew ?_ | refine blk_alloc ?_ _)); refine blk_put (cs := #[.int .i64 t284, .int .i64 0, .slice none 0 0, .slice none 0 0, .slice none 0 0]) ?_ 1 _ rfl; (with_reducible repeat (first | refine blk_drewN ?_ _ | refine blk_drew ?_ | refine blk_alloc ?_ _)); refine blk_put (cs := #[.int .i64 0, .int .i64 0, .slice none 0 0, .slice none 0 0, .slice none 0 0]) ?_ 0 _ rfl; (with_reducible repeat (first | refine blk_drewN ?_ _ | refine blk_drew ?_ | refine blk_alloc ?_ _)); exact BK296.out⟩, ⟨by repeat (first | (with_reducible first | exact HB.out | apply below_alloc | apply pw_below_drewN | apply below_drew1 | refine below_set ?_ GE253.out | refine below_set ?_ GE254.out | refine below_set ?_ GE268.out | refine below_set ?_ GE281.out | refine below_set ?_ GE296.out) | exact HB.out)⟩⟩
       ·
        rw [if_neg c70] at H
        have c70b0 : (t295 == 0) = false := beq_eq_false_iff_ne.mpr c70
        have c70b1 : (t295 != 0) = true := bne_iff_ne.mpr c70
        (first | rw [c70b0] | (simp only [i64_w, i32_w]; rw [c70b0]) | skip)
        have H' := Aside0.mk H
        clear H
        go_wp2
        go_meet
        case rel => exact ⟨_, (true), (by first | rfl | (simp; done) | (simp [*]; done)), H', ⟨by have := HK1.out; first | omega | exact Nat.le_refl _⟩, ⟨by (with_reducible repeat (first | apply Kd.R_alloc | apply Kd.R_drewN | apply Kd.R_drew)); exact Kd.R_mono (Kd.R_far (p := ⟨gb296, 4, none⟩) (Kd.R_far (p := ⟨gb296, 3, none⟩) (Kd.R_far (p := ⟨gb296, 2, none⟩) (Kd.R_far (p := ⟨gb296, 1, none⟩) (Kd.R_far (p := ⟨gb296, 0, none⟩) (Kd.R_types HO_269002.out BK296.out (by decide)) (fun _ hk => hk.2) (.int .i64 t284)) (fun _ hk => hk.2) (.int .i64 t285)) (fun _ hk => hk.2) (.slice Ao67 t286.length co67)) (fun _ hk => hk.2) (.slice Ao68 t289.length co68)) (fun _ hk => hk.2) (.slice Ao69 t292.length co69)) (fun _ hk => ⟨hk.1.1.1.1.1, ⟨hk.1.1.1.1.2.1, ⟨hk.1.1.1.1.2.2.1, ⟨hk.1.1.1.1.2.2.2.1, ⟨hk.1.1.1.1.2.2.2.2, ⟨hk.1.1.1.2, ⟨hk.1.1.2, hk.1.2⟩⟩⟩⟩⟩⟩⟩)⟩, ⟨by (with_reducible repeat (first | apply Kd.R_alloc | apply Kd.R_drewN | apply Kd.R_drew)); exact Kd.R_mono (Kd.R_far (p := ⟨gb296, 4, none⟩) (Kd.R_far (p := ⟨gb296, 3, none⟩) (Kd.R_far (p := ⟨gb296, 2, none⟩) (Kd.R_far (p := ⟨gb296, 1, none⟩) (Kd.R_far (p := ⟨gb296, 0, none⟩) (Kd.R_types HO_269003.out BK296.out (by decide)) (fun _ hk => hk.2) (.int .i64 t284)) (fun _ hk => hk.2) (.int .i64 t285)) (fun _ hk => hk.2) (.slice Ao67 t286.length co67)) (fun _ hk => hk.2) (.slice Ao68 t289.length co68)) (fun _ hk => hk.2) (.slice Ao69 t292.length co69)) (fun _ hk => ⟨hk.1.1.1.1.1, ⟨hk.1.1.1.1.2.1, ⟨hk.1.1.1.1.2.2.1, ⟨hk.1.1.1.1.2.2.2.1, ⟨hk.1.1.1.1.2.2.2.2, ⟨hk.1.1.1.2, ⟨hk.1.1.2, hk.1.2⟩⟩⟩⟩⟩⟩⟩)⟩, ⟨by (with_reducible repeat (first | apply Kd.R_alloc | apply Kd.R_drewN | apply Kd.R_drew)); exact Kd.R_mono (Kd.R_far (p := ⟨gb296, 4, none⟩) (Kd.R_far (p := ⟨gb296, 3, none⟩) (Kd.R_far (p := ⟨gb296, 2, none⟩) (Kd.R_far (p := ⟨gb296, 1, none⟩) (Kd.R_far (p := ⟨gb296, 0, none⟩) (Kd.R_types HO_269004.out BK296.out (by decide)) (fun _ hk => hk.2) (.int .i64 t284)) (fun _ hk => hk.2) (.int .i64 t285)) (fun _ hk => hk.2) (.slice Ao67 t286.length co67)) (fun _ hk => hk.2) (.slice Ao68 t289.length co68)) (fun _ hk => hk.2) (.slice Ao69 t292.length co69)) (fun _ hk => ⟨hk.1.1.1.1.1, ⟨hk.1.1.1.1.2.1, ⟨hk.1.1.1.1.2.2.1, ⟨hk.1.1.1.1.2.2.2.1, ⟨hk.1.1.1.1.2.2.2.2, ⟨hk.1.1.1.2, ⟨hk.1.1.2, hk.1.2⟩⟩⟩⟩⟩⟩⟩)⟩, ⟨by (with_reducible repeat (first | apply Kd.R_alloc | apply Kd.R_drewN | apply Kd.R_drew)); exact Kd.R_mono (Kd.R_far (p := ⟨gb296, 4, none⟩) (Kd.R_far (p := ⟨gb296, 3, none⟩) (Kd.R_far (p := ⟨gb296, 2, none⟩) (Kd.R_far (p := ⟨gb296, 1, none⟩) (Kd.R_far (p := ⟨gb296, 0, none⟩) (Kd.R_types HO_282002.out BK296.out (by decide)) (fun _ hk => hk.2) (.int .i64 t284)) (fun _ hk => hk.2) (.int .i64 t285)) (fun _ hk => hk.2) (.slice Ao67 t286.length co67)) (fun _ hk => hk.2) (.slice Ao68 t289.length co68)) (fun _ hk => hk.2) (.slice Ao69 t292.length co69)) (fun _ hk => ⟨hk.1.1.1.1.1, ⟨hk.1.1.1.1.2.1, ⟨hk.1.1.1.1.2.2.1, ⟨hk.1.1.1.1.2.2.2.1, ⟨hk.1.1.1.1.2.2.2.2, ⟨hk.1.1.1.2, ⟨hk.1.1.2, hk.1.2⟩⟩⟩⟩⟩⟩⟩)⟩, ⟨by (with_reducible repeat (first | apply Kd.R_alloc | apply Kd.R_drewN | apply Kd.R_drew)); exact Kd.R_mono (Kd.R_far (p := ⟨gb296, 4, none⟩) (Kd.R_far (p := ⟨gb296, 3, none⟩) (Kd.R_far (p := ⟨gb296, 2, none⟩) (Kd.R_far (p := ⟨gb296, 1, none⟩) (Kd.R_far (p := ⟨gb296, 0, none⟩) (Kd.R_types HO_282003.out BK296.out (by decide)) (fun _ hk => hk.2) (.int .i64 t284)) (fun _ hk => hk.2) (.int .i64 t285)) (fun _ hk => hk.2) (.slice Ao67 t286.length co67)) (fun _ hk => hk.2) (.slice Ao68 t289.length co68)) (fun _ hk => hk.2) (.slice Ao69 t292.length co69)) (fun _ hk => ⟨hk.1.1.1.1.1, ⟨hk.1.1.1.1.2.1, ⟨hk.1.1.1.1.2.2.1, ⟨hk.1.1.1.1.2.2.2.1, ⟨hk.1.1.1.1.2.2.2.2, ⟨hk.1.1.1.2, ⟨hk.1.1.2, hk.1.2⟩⟩⟩⟩⟩⟩⟩)⟩, ⟨by (with_reducible repeat (first | apply Kd.R_alloc | apply Kd.R_drewN | apply Kd.R_drew)); exact Kd.R_mono (Kd.R_far (p := ⟨gb296, 4, none⟩) (Kd.R_far (p := ⟨gb296, 3, none⟩) (Kd.R_far (p := ⟨gb296, 2, none⟩) (Kd.R_far (p := ⟨gb296, 1, none⟩) (Kd.R_far (p := ⟨gb296, 0, none⟩) (Kd.R_types HO_282004.out BK296.out (by decide)) (fun _ hk => hk.2) (.int .i64 t284)) (fun _ hk => hk.2) (.int .i64 t285)) (fun _ hk => hk.2) (.slice Ao67 t286.length co67)) (fun _ hk => hk.2) (.slice Ao68 t289.length co68)) (fun _ hk => hk.2) (.slice Ao69 t292.length co69)) (fun _ hk => ⟨hk.1.1.1.1.1, ⟨hk.1.1.1.1.2.1, ⟨hk.1.1.1.1.2.2.1, ⟨hk.1.1.1.1.2.2.2.1, ⟨hk.1.1.1.1.2.2.2.2, ⟨hk.1.1.1.2, ⟨hk.1.1.2, hk.1.2⟩⟩⟩⟩⟩⟩⟩)⟩, ⟨by (with_reducible repeat (first | apply Kd.R_alloc | apply Kd.R_drewN | apply Kd.R_drew)); exact Kd.R_mono (Kd.R_far (p := ⟨gb296, 4, none⟩) (Kd.R_far (p := ⟨gb296, 3, none⟩) (Kd.R_far (p := ⟨gb296, 2, none⟩) (Kd.R_far (p := ⟨gb296, 1, none⟩) (Kd.R_far (p := ⟨gb296, 0, none⟩) (Kd.R_types HO288.out BK296.out (by decide)) (fun _ hk => hk.2) (.int .i64 t284)) (fun _ hk => hk.2) (.int .i64 t285)) (fun _ hk => hk.2) (.slice Ao67 t286.length co67)) (fun _ hk => hk.2) (.slice Ao68 t289.length co68)) (fun _ hk => hk.2) (.slice Ao69 t292.length co69)) (fun _ hk => ⟨hk.1.1.1.1.1.1.2, ⟨hk.1.1.1.1.1.2, ⟨hk.1.1.1.1.2, ⟨hk.1.1.1.2, ⟨hk.1.1.2, ⟨hk.1.2, ⟨hk.1.1.1.1.1.1.1.1, hk.1.1.1.1.1.1.1.2⟩⟩⟩⟩⟩⟩⟩)⟩, ⟨by (with_reducible repeat (first | apply Kd.R_alloc | apply Kd.R_drewN | apply Kd.R_drew)); exact Kd.R_mono (Kd.R_far (p := ⟨gb296, 4, none⟩) (Kd.R_far (p := ⟨gb296, 3, none⟩) (Kd.R_far (p := ⟨gb296, 2, none⟩) (Kd.R_far (p := ⟨gb296, 1, none⟩) (Kd.R_far (p := ⟨gb296, 0, none⟩) (Kd.R_types HO291.out BK296.out (by decide)) (fun _ hk => hk.2) (.int .i64 t284)) (fun _ hk => hk.2) (.int .i64 t285)) (fun _ hk => hk.2) (.slice Ao67 t286.length co67)) (fun _ hk => hk.2) (.slice Ao68 t289.length co68)) (fun _ hk => hk.2) (.slice Ao69 t292.length co69)) (fun _ hk => ⟨hk.1.1.1.1.1.1.2, ⟨hk.1.1.1.1.1.2, ⟨hk.1.1.1.1.2, ⟨hk.1.1.1.2, ⟨hk.1.1.2, ⟨hk.1.2, ⟨hk.1.1.1.1.1.1.1.1, hk.1.1.1.1.1.1.1.2⟩⟩⟩⟩⟩⟩⟩)⟩, ⟨by (with_reducible repeat (first | apply Kd.R_alloc | apply Kd.R_drewN | apply Kd.R_drew)); exact Kd.R_mono (Kd.R_far (p := ⟨gb296, 4, none⟩) (Kd.R_far (p := ⟨gb296, 3, none⟩) (Kd.R_far (p := ⟨gb296, 2, none⟩) (Kd.R_far (p := ⟨gb296, 1, none⟩) (Kd.R_far (p := ⟨gb296, 0, none⟩) (Kd.R_types HO294.out BK296.out (by decide)) (fun _ hk => hk.2) (.int .i64 t284)) (fun _ hk => hk.2) (.int .i64 t285)) (fun _ hk => hk.2) (.slice Ao67 t286.length co67)) (fun _ hk => hk.2) (.slice Ao68 t289.length co68)) (fun _ hk => hk.2) (.slice Ao69 t292.length co69)) (fun _ hk => ⟨hk.1.1.1.1.1.1.2, ⟨hk.1.1.1.1.1.2, ⟨hk.1.1.1.1.2, ⟨hk.1.1.1.2, ⟨hk.1.1.2, ⟨hk.1.2, ⟨hk.1.1.1.1.1.1.1.1, hk.1.1.1.1.1.1.1.2⟩⟩⟩⟩⟩⟩⟩)⟩, ⟨by (with_reducible repeat (first | refine blk_drewN ?_ _ | refine blk_drew ?_ | refine blk_alloc ?_ _)); refine blk_far ?_ NB253_296.out _; (with_reducible repeat (first | refine blk_drewN ?_ _ | refine blk_drew ?_ | refine blk_alloc ?_ _)); refine blk_far ?_ NB253_296.out _; (with_reducible repeat (first | refine blk_drewN ?_ _ | refine blk_drew ?_ | refine blk_alloc ?_ _)); refine blk_far ?_ NB253_296.out _; (with_reducible repeat (first | refine blk_drewN ?_ _ | refine blk_drew ?_ | refine blk_alloc ?_ _)); refine blk_far ?_ NB253_296.out _; (with_reducible repeat (first | refine blk_drewN ?_ _ | refine blk_drew ?_ | refine blk_alloc ?_ _)); refine blk_far ?_ NB253_296.out _; (with_reducible repeat (first | refine blk_drewN ?_ _ | refine blk_drew ?_ | refine blk_alloc ?_ _)); exact BK253.out⟩, ⟨by (with_reducible repeat (first | refine blk_drewN ?_ _ | refine blk_drew ?_ | refine blk_alloc ?_ _)); refine blk_far ?_ NB254_296.out _; (with_reducible repeat (first | refine blk_drewN ?_ _ | refine blk_drew ?_ | refine blk_alloc ?_ _)); refine blk_far ?_ NB254_296.out _; (with_reducible repeat (first | refine blk_drewN ?_ _ | refine blk_drew ?_ | refine blk_alloc ?_ _)); refine blk_far ?_ NB254_296.out _; (with_reducible repeat (first | refine blk_drewN ?_ _ | refine blk_drew ?_ | refine blk_alloc ?_ _)); refine blk_far ?_ NB254_296.out _; (with_reducible repeat (first | refine blk_drewN ?_ _ | refine blk_drew ?_ | refine blk_alloc ?_ _)); refine blk_far ?_ NB254_296.out _; (with_reducible repeat (first | refine blk_drewN ?_ _ | refine blk_drew ?_ | refine blk_alloc ?_ _)); exact BK254.out⟩, ⟨by (with_reducible repeat (first | refine blk_drewN ?_ _ | refine blk_drew ?_ | refine blk_alloc ?_ _)); refine blk_far ?_ NB268_296.out _; (with_reducible repeat (first | refine blk_drewN ?_ _ | refine blk_drew ?_ | refine blk_alloc ?_ _)); refine blk_far ?_ NB268_296.out _; (with_reducible repeat (first | refine blk_drewN ?_ _ | refine blk_drew ?_ | refine blk_alloc ?_ _)); refine blk_far ?_ NB268_296.out _; (with_reducible repeat (first | refine blk_drewN ?_ _ | refine blk_drew ?_ | refine blk_alloc ?_ _)); refine blk_far ?_ NB268_296.out _; (with_reducible repeat (first | refine blk_drewN ?_ _ | refine blk_drew ?_ | refine blk_alloc ?_ _)); refine blk_far ?_ NB268_296.out _; (with_reducible repeat (first | refine blk_drewN ?_ _ | refine blk_drew ?_ | refine blk_alloc ?_ _)); exact BK268.out⟩, ⟨by (with_reducible repeat (first | refine blk_drewN ?_ _ | refine blk_drew ?_ | refine blk_alloc ?_ _)); refine blk_far ?_ NB281_296.out _; (with_reducible repeat (first | refine blk_drewN ?_ _ | refine blk_drew ?_ | refine blk_alloc ?_ _)); refine blk_far ?_ NB281_296.out _; (with_reducible repeat (first | refine blk_drewN ?_ _ | refine blk_drew ?_ | refine blk_alloc ?_ _)); refine blk_far ?_ NB281_296.out _; (with_reducible repeat (first | refine blk_drewN ?_ _ | refine blk_drew ?_ | refine blk_alloc ?_ _)); refine blk_far ?_ NB281_296.out _; (with_reducible repeat (first | refine blk_drewN ?_ _ | refine blk_drew ?_ | refine blk_alloc ?_ _)); refine blk_far ?_ NB281_296.out _; (with_reducible repeat (first | refine blk_drewN ?_ _ | refine blk_drew ?_ | refine blk_alloc ?_ _)); exact BK281.out⟩, ⟨by (with_reducible repeat (first | refine blk_drewN ?_ _ | refine blk_drew ?_ | refine blk_alloc ?_ _)); refine blk_put (cs := #[.int .i64 t284, .int .i64 t285, .slice Ao67 t286.length co67, .slice Ao68 t289.length co68, .slice none 0 0]) ?_ 4 _ rfl; (with_reducible repeat (first | refine blk_drewN ?_ _ | refine blk_drew ?_ | refine blk_alloc ?_ _)); refine blk_put (cs := #[.int .i64 t284, .int .i64 t285, .slice Ao67 t286.length co67, .slice none 0 0, .slice none 0 0]) ?_ 3 _ rfl; (with_reducible repeat (first | refine blk_drewN ?_ _ | refine blk_drew ?_ | refine blk_alloc ?_ _)); refine blk_put (cs := #[.int .i64 t284, .int .i64 t285, .slice none 0 0, .slice none 0 0, .slice none 0 0]) ?_ 2 _ rfl; (with_reducible repeat (first | refine blk_drewN ?_ _ | refine blk_drew ?_ | refine blk_alloc ?_ _)); refine blk_put (cs := #[.int .i64 t284, .int .i64 0, .slice none 0 0, .slice none 0 0, .slice none 0 0]) ?_ 1 _ rfl; (with_reducible repeat (first | refine blk_drewN ?_ _ | refine blk_drew ?_ | refine blk_alloc ?_ _)); refine blk_put (cs := #[.int .i64 0, .int .i64 0, .slice none 0 0, .slice none 0 0, .slice none 0 0]) ?_ 0 _ rfl; (with_reducible repeat (first | refine blk_drewN ?_ _ | refine blk_drew ?_ | refine blk_alloc ?_ _)); exact BK296.out⟩, ⟨by repeat (first | (with_reducible first | exact HB.out | apply below_alloc | apply pw_below_drewN | apply below_drew1 | refine below_set ?_ GE253.out | refine below_set ?_ GE254.out | refine below_set ?_ GE268.out | refine below_set ?_ GE281.out | refine below_set ?_ GE296.out) | exact HB.out)⟩⟩
      case rest =>
       clear HC47
       try clear c1
       try clear c2
       try clear p2
       try clear q2
       try clear hx2
       try clear c3
       try clear p3
       try clear q3
       try clear hx3
       try clear hf3
       try clear c4
       try clear c5
       try clear c6
       try clear c6b0
       try clear c6b1
       try clear p6
       try clear c7
       try clear c8
       try clear c9
       try clear c10
       try clear c15
       try clear c17
       try clear c18
       try clear c21
       try clear c26
       try clear c27
       try clear c28
       try clear p28
       try clear q28
       try clear hx28
       try clear c33
       try clear c33b0
       try clear c34
       try clear c34b0
       try clear c34b1
       try clear c35
       try clear c35b0
       try clear c37
       try clear c37b0
       try clear c38
       try clear c38b0
       try clear p39
       try clear q39
       try clear hx39
       try clear hf39
       try clear c40
       try clear c41
       try clear c42
       try clear c48
       try clear c49
       try clear c50
       try clear c52
       try clear c53
       try clear c55
       try clear c62
       try clear c63
       try clear c64
       try clear p64
       try clear c65
       try clear c70
       try clear c70b0
       try clear c70b1
       try clear c71
       try clear c71b0
       try clear c71b1
       try clear c71b2
       try clear c72
       try clear c73
       try clear c74
       try clear c75
       try clear c77
       try clear c78
       try clear c79
       try clear c82
       try clear c83
       try clear c85
       try clear c86
       try clear c87
       try clear c88
       try clear c90
       try clear c91
       try clear c92
       try clear hcz11_0
       try clear hcz11_1
       try clear hcz11_2
       try clear hcz11_3
       try clear hcz11_4
       try clear hcz13_0
       try clear hcz13_1
       try clear hcz13_2
       try clear hcz13_3
       try clear hcz13_4
       try clear hcz14_0
       try clear hcz14_1
       try clear hcz14_2
       try clear hcz14_3
       try clear hcz14_4
       try clear hcz14_5
       try clear hcz19_0
       try clear hcz19_1
       try clear hcz19_2
       try clear hcz19_3
       try clear hcz19_4
       try clear hcz23_0
       try clear hcz23_1
       try clear hcz23_2
       try clear hcz23_3
       try clear hcz23_4
       try clear hcz29_0
       try clear hcz29_1
       try clear hcz29_2
       try clear hcz29_3
       try clear hcz29_4
       try clear hcz43_0
       try clear hcz43_1
       try clear hcz43_2
       try clear hcz43_3
       try clear hcz43_4
       try clear hcz51_0
       try clear hcz51_1
       try clear hcz51_2
       try clear hcz51_3
       try clear hcz51_4
       try clear hcz54_0
       try clear hcz54_1
       try clear hcz54_2
       try clear hcz54_3
       try clear hcz54_4
       try clear hcz56_0
       try clear hcz56_1
       try clear hcz56_2
       try clear hcz56_3
       try clear hcz56_4
       try clear hcz56_5
       try clear hcz66_0
       try clear hcz66_1
       try clear hcz66_2
       try clear hcz66_3
       try clear hcz66_4
       try clear hcz76_0
       try clear hcz76_1
       try clear hcz76_2
       try clear hcz76_3
       try clear hcz76_4
       try clear hcz80_0
       try clear hcz80_1
       try clear hcz80_2
       try clear hcz80_3
       try clear hcz80_4
       try clear hcz84_0
       try clear hcz84_1
       try clear hcz84_2
       try clear hcz84_3
       try clear hcz84_4
       try clear hcz84_5
       try clear hcz89_0
       try clear hcz89_1
       try clear hcz89_2
       try clear hcz89_3
       try clear hcz89_4
       try clear hcz93_0
       try clear hcz93_1
       try clear hcz93_2
       try clear hcz93_3
       try clear hcz93_4
       try clear hfz11_0
       try clear hfz11_1
       try clear hfz11_2
       try clear hfz11_3
       try clear hfz11_4
       try clear hfz13_0
       try clear hfz13_1
       try clear hfz13_2
       try clear hfz13_3
       try clear hfz13_4
       try clear hfz14_0
       try clear hfz14_1
       try clear hfz14_2
       try clear hfz14_3
       try clear hfz14_4
       try clear hfz14_5
       try clear hfz19_0
       try clear hfz19_1
       try clear hfz19_2
       try clear hfz19_3
       try clear hfz19_4
       try clear hfz23_0
       try clear hfz23_1
       try clear hfz23_2
       try clear hfz23_3
       try clear hfz23_4
       try clear hfz29_0
       try clear hfz29_1
       try clear hfz29_2
       try clear hfz29_3
       try clear hfz29_4
       try clear hfz43_0
       try clear hfz43_1
       try clear hfz43_2
       try clear hfz43_3
       try clear hfz43_4
       try clear hfz51_0
       try clear hfz51_1
       try clear hfz51_2
       try clear hfz51_3
       try clear hfz51_4
       try clear hfz54_0
       try clear hfz54_1
       try clear hfz54_2
       try clear hfz54_3
       try clear hfz54_4
       try clear hfz56_0
       try clear hfz56_1
       try clear hfz56_2
       try clear hfz56_3
       try clear hfz56_4
       try clear hfz56_5
       try clear hfz66_0
       try clear hfz66_1
       try clear hfz66_2
       try clear hfz66_3
       try clear hfz66_4
       try clear hfz76_0
       try clear hfz76_1
       try clear hfz76_2
       try clear hfz76_3
       try clear hfz76_4
       try clear hfz80_0
       try clear hfz80_1
       try clear hfz80_2
       try clear hfz80_3
       try clear hfz80_4
       try clear hfz84_0
       try clear hfz84_1
       try clear hfz84_2
       try clear hfz84_3
       try clear hfz84_4
       try clear hfz84_5
       try clear hfz89_0
       try clear hfz89_1
       try clear hfz89_2
       try clear hfz89_3
       try clear hfz89_4
       try clear hfz93_0
       try clear hfz93_1
       try clear hfz93_2
       try clear hfz93_3
       try clear hfz93_4
       try clear hx282_0
       try clear hx39_0
       try clear p2
       try clear p282
       try clear p39
       try clear q282
       try clear q39
       obtain ⟨kq, x114_46, rfl, HA, HJ46, HO_269002, HO_269003, HO_269004, HO_282002, HO_282003, HO_282004, HO_297002, HO_297003, HO_297004, BK253, BK254, BK268, BK281, BK296, HB⟩ := hcut
       cases kq with
       | zero => exact absurd HA.out (by simp [cutroomlaw08_MotionMirror.j1])
       | succ kj46 =>
        have H := HA.out
        clear HA
        simp only [cutroomlaw08_MotionMirror.j1] at H
        by_cases c95 : x114_46 = true
        ·
         subst c95
         have H1 : (some false) = some r := by rw [if_pos rfl] at H; exact H
         clear H
         have H := H1
         clear H1
         obtain rfl := Option.some.inj H
         go_wp2
         go_ret
         exact ⟨by first | rfl | (simp [errW_none, errW_some] <;> rfl) | (simp [*, errW_none, errW_some] <;> rfl), by repeat (first | (with_reducible first | exact HB.out | apply below_alloc | apply pw_below_drewN | apply below_drew1 | refine below_set ?_ GE253.out | refine below_set ?_ GE254.out | refine below_set ?_ GE268.out | refine below_set ?_ GE281.out | refine below_set ?_ GE296.out) | exact HB.out)⟩
        ·
         replace c95 := Bool.eq_false_iff.mpr c95
         subst c95
         have H1 : (cutroomlaw08_MotionMirror.l1 kj46 0 a1_0 a1_1 a1_2 a1_3 a1_4 a1_5 t256 t257 x269002_1 x269003_1 x269004_1 t284 t285 t286 t289 t292) = some r := by rw [if_neg (show ¬ (false = true) by decide)] at H; exact H
         clear H
         have H := H1
         clear H1
         have H' := Aside0.mk H
         clear H
         go_wp2
         go_loopg [11] kj46 (fun kq v11 w' => ∃ (x11_3 : Int), v11 = .int .i64 x11_3 ∧ Aside0 (cutroomlaw08_MotionMirror.l1 kq x11_3 a1_0 a1_1 a1_2 a1_3 a1_4 a1_5 t256 t257 x269002_1 x269003_1 x269004_1 t284 t285 t286 t289 t292 = some r) ∧ Aside0 (kq ≤ kj46) ∧ Aside0 (Kd.R (Kd.int .u8) 5 w' w.heap.size (fun k_ => some k_ ≠ (u269003 : Value).ownBlock ∧ some k_ ≠ (u269004 : Value).ownBlock ∧ some k_ ≠ ((.slice Ao57 x282002_1.length co57) : Value).ownBlock ∧ some k_ ≠ ((.slice Ao58 x282003_1.length co58) : Value).ownBlock ∧ some k_ ≠ ((.slice Ao59 x282004_1.length co59) : Value).ownBlock ∧ some k_ ≠ ((.slice Ao67 t286.length co67) : Value).ownBlock ∧ some k_ ≠ ((.slice Ao68 t289.length co68) : Value).ownBlock ∧ some k_ ≠ ((.slice Ao69 t292.length co69) : Value).ownBlock) u269002 x269002_1) ∧ Aside0 (Kd.R (Kd.int .u8) 5 w' w.heap.size (fun k_ => some k_ ≠ (u269002 : Value).ownBlock ∧ some k_ ≠ (u269004 : Value).ownBlock ∧ some k_ ≠ ((.slice Ao57 x282002_1.length co57) : Value).ownBlock ∧ some k_ ≠ ((.slice Ao58 x282003_1.length co58) : Value).ownBlock ∧ some k_ ≠ ((.slice Ao59 x282004_1.length co59) : Value).ownBlock ∧ some k_ ≠ ((.slice Ao67 t286.length co67) : Value).ownBlock ∧ some k_ ≠ ((.slice Ao68 t289.length co68) : Value).ownBlock ∧ some k_ ≠ ((.slice Ao69 t292.length co69) : Value).ownBlock) u269003 x269003_1) ∧ Aside0 (Kd.R (Kd.int .u8) 5 w' w.heap.size (fun k_ => some k_ ≠ (u269002 : Value).ownBlock ∧ some k_ ≠ (u269003 : Value).ownBlock ∧ some k_ ≠ ((.slice Ao57 x282002_1.length co57) : Value).ownBlock ∧ some k_ ≠ ((.slice Ao58 x282003_1.length co58) : Value).ownBlock ∧ some k_ ≠ ((.slice Ao59 x282004_1.length co59) : Value).ownBlock ∧ some k_ ≠ ((.slice Ao67 t286.length co67) : Value).ownBlock ∧ some k_ ≠ ((.slice Ao68 t289.length co68) : Value).ownBlock ∧ some k_ ≠ ((.slice Ao69 t292.length co69) : Value).ownBlock) u269004 x269004_1) ∧ Aside0 (Kd.R (Kd.int .u8) 5 w' w.heap.size (fun k_ => some k_ ≠ (u269002 : Value).ownBlock ∧ some k_ ≠ (u269003 : Value).ownBlock ∧ some k_ ≠ (u269004 : Value).ownBlock ∧ some k_ ≠ ((.slice Ao58 x282003_1.length co58) : Value).ownBlock ∧ some k_ ≠ ((.slice Ao59 x282004_1.length co59) : Value).ownBlock ∧ some k_ ≠ ((.slice Ao67 t286.length co67) : Value).ownBlock ∧ some k_ ≠ ((.slice Ao68 t289.length co68) : Value).ownBlock ∧ some k_ ≠ ((.slice Ao69 t292.length co69) : Value).ownBlock) (.slice Ao57 x282002_1.length co57) x282002_1) ∧ Aside0 (Kd.R (Kd.int .u8) 5 w' w.heap.size (fun k_ => some k_ ≠ (u269002 : Value).ownBlock ∧ some k_ ≠ (u269003 : Value).ownBlock ∧ some k_ ≠ (u269004 : Value).ownBlock ∧ some k_ ≠ ((.slice Ao57 x282002_1.length co57) : Value).ownBlock ∧ some k_ ≠ ((.slice Ao59 x282004_1.length co59) : Value).ownBlock ∧ some k_ ≠ ((.slice Ao67 t286.length co67) : Value).ownBlock ∧ some k_ ≠ ((.slice Ao68 t289.length co68) : Value).ownBlock ∧ some k_ ≠ ((.slice Ao69 t292.length co69) : Value).ownBlock) (.slice Ao58 x282003_1.length co58) x282003_1) ∧ Aside0 (Kd.R (Kd.int .u8) 5 w' w.heap.size (fun k_ => some k_ ≠ (u269002 : Value).ownBlock ∧ some k_ ≠ (u269003 : Value).ownBlock ∧ some k_ ≠ (u269004 : Value).ownBlock ∧ some k_ ≠ ((.slice Ao57 x282002_1.length co57) : Value).ownBlock ∧ some k_ ≠ ((.slice Ao58 x282003_1.length co58) : Value).ownBlock ∧ some k_ ≠ ((.slice Ao67 t286.length co67) : Value).ownBlock ∧ some k_ ≠ ((.slice Ao68 t289.length co68) : Value).ownBlock ∧ some k_ ≠ ((.slice Ao69 t292.length co69) : Value).ownBlock) (.slice Ao59 x282004_1.length co59) x282004_1) ∧ Aside0 (Kd.R (Kd.int .u8) 5 w' w.heap.size (fun k_ => some k_ ≠ (u269002 : Value).ownBlock ∧ some k_ ≠ (u269003 : Value).ownBlock ∧ some k_ ≠ (u269004 : Value).ownBlock ∧ some k_ ≠ ((.slice Ao57 x282002_1.length co57) : Value).ownBlock ∧ some k_ ≠ ((.slice Ao58 x282003_1.length co58) : Value).ownBlock ∧ some k_ ≠ ((.slice Ao59 x282004_1.length co59) : Value).ownBlock ∧ some k_ ≠ ((.slice Ao68 t289.length co68) : Value).ownBlock ∧ some k_ ≠ ((.slice Ao69 t292.length co69) : Value).ownBlock) (.slice Ao67 t286.length co67) t286) ∧ Aside0 (Kd.R (Kd.int .u8) 5 w' w.heap.size (fun k_ => some k_ ≠ (u269002 : Value).ownBlock ∧ some k_ ≠ (u269003 : Value).ownBlock ∧ some k_ ≠ (u269004 : Value).ownBlock ∧ some k_ ≠ ((.slice Ao57 x282002_1.length co57) : Value).ownBlock ∧ some k_ ≠ ((.slice Ao58 x282003_1.length co58) : Value).ownBlock ∧ some k_ ≠ ((.slice Ao59 x282004_1.length co59) : Value).ownBlock ∧ some k_ ≠ ((.slice Ao67 t286.length co67) : Value).ownBlock ∧ some k_ ≠ ((.slice Ao69 t292.length co69) : Value).ownBlock) (.slice Ao68 t289.length co68) t289) ∧ Aside0 (Kd.R (Kd.int .u8) 5 w' w.heap.size (fun k_ => some k_ ≠ (u269002 : Value).ownBlock ∧ some k_ ≠ (u269003 : Value).ownBlock ∧ some k_ ≠ (u269004 : Value).ownBlock ∧ some k_ ≠ ((.slice Ao57 x282002_1.length co57) : Value).ownBlock ∧ some k_ ≠ ((.slice Ao58 x282003_1.length co58) : Value).ownBlock ∧ some k_ ≠ ((.slice Ao59 x282004_1.length co59) : Value).ownBlock ∧ some k_ ≠ ((.slice Ao67 t286.length co67) : Value).ownBlock ∧ some k_ ≠ ((.slice Ao68 t289.length co68) : Value).ownBlock) (.slice Ao69 t292.length co69) t292) ∧ Aside0 (w'.heap[gb253]? = some (.cells #[.int .i64 a0_0, .int .i64 a0_1, (.slice A0_2 l0_2.length c0_2), (.slice A0_3 l0_3.length c0_3), (.slice A0_4 l0_4.length c0_4)] 24 (0, 0))) ∧ Aside0 (w'.heap[gb254]? = some (.cells #[.int .i64 a1_0, .int .i64 a1_1, .int .i64 a1_2, .int .i64 a1_3, .int .i64 a1_4, .int .i64 a1_5] 34 (0, 0))) ∧ Aside0 (w'.heap[gb268]? = some (.cells #[.int .i64 t256, .int .i64 t257, u269002, u269003, u269004] 24 (0, 0))) ∧ Aside0 (w'.heap[gb281]? = some (.cells #[.int .i64 t270, .int .i64 t271, (.slice Ao57 x282002_1.length co57), (.slice Ao58 x282003_1.length co58), (.slice Ao59 x282004_1.length co59)] 24 (0, 0))) ∧ Aside0 (w'.heap[gb296]? = some (.cells #[.int .i64 t284, .int .i64 t285, (.slice Ao67 t286.length co67), (.slice Ao68 t289.length co68), (.slice Ao69 t292.length co69)] 24 (0, 0))) ∧ Aside0 (Below w.heap.size w w'))
         case atStart => exact ⟨(0), (by first | rfl | (simp; done) | (simp [*]; done)), H', ⟨Nat.le_refl _⟩, ⟨by (with_reducible repeat (first | apply Kd.R_alloc | apply Kd.R_drewN | apply Kd.R_drew)); exact HO_269002.out⟩, ⟨by (with_reducible repeat (first | apply Kd.R_alloc | apply Kd.R_drewN | apply Kd.R_drew)); exact HO_269003.out⟩, ⟨by (with_reducible repeat (first | apply Kd.R_alloc | apply Kd.R_drewN | apply Kd.R_drew)); exact HO_269004.out⟩, ⟨by (with_reducible repeat (first | apply Kd.R_alloc | apply Kd.R_drewN | apply Kd.R_drew)); exact HO_282002.out⟩, ⟨by (with_reducible repeat (first | apply Kd.R_alloc | apply Kd.R_drewN | apply Kd.R_drew)); exact HO_282003.out⟩, ⟨by (with_reducible repeat (first | apply Kd.R_alloc | apply Kd.R_drewN | apply Kd.R_drew)); exact HO_282004.out⟩, ⟨by (with_reducible repeat (first | apply Kd.R_alloc | apply Kd.R_drewN | apply Kd.R_drew)); exact HO_297002.out⟩, ⟨by (with_reducible repeat (first | apply Kd.R_alloc | apply Kd.R_drewN | apply Kd.R_drew)); exact HO_297003.out⟩, ⟨by (with_reducible repeat (first | apply Kd.R_alloc | apply Kd.R_drewN | apply Kd.R_drew)); exact HO_297004.out⟩, ⟨by (with_reducible repeat (first | refine blk_drewN ?_ _ | refine blk_drew ?_ | refine blk_alloc ?_ _)); exact BK253.out⟩, ⟨by (with_reducible repeat (first | refine blk_drewN ?_ _ | refine blk_drew ?_ | refine blk_alloc ?_ _)); exact BK254.out⟩, ⟨by (with_reducible repeat (first | refine blk_drewN ?_ _ | refine blk_drew ?_ | refine blk_alloc ?_ _)); exact BK268.out⟩, ⟨by (with_reducible repeat (first | refine blk_drewN ?_ _ | refine blk_drew ?_ | refine blk_alloc ?_ _)); exact BK281.out⟩, ⟨by (with_reducible repeat (first | refine blk_drewN ?_ _ | refine blk_drew ?_ | refine blk_alloc ?_ _)); exact BK296.out⟩, ⟨by repeat (first | (with_reducible first | exact HB.out | apply below_alloc | apply pw_below_drewN | apply below_drew1 | refine below_set ?_ GE253.out | refine below_set ?_ GE254.out | refine below_set ?_ GE268.out | refine below_set ?_ GE281.out | refine below_set ?_ GE296.out) | exact HB.out)⟩⟩
         case round =>
          clear H'
          try clear c1
          try clear c2
          try clear p2
          try clear q2
          try clear hx2
          try clear c3
          try clear p3
          try clear q3
          try clear hx3
          try clear hf3
          try clear c4
          try clear c5
          try clear c6
          try clear c6b0
          try clear c6b1
          try clear p6
          try clear c7
          try clear c8
          try clear c9
          try clear c10
          try clear c15
          try clear c17
          try clear c18
          try clear c21
          try clear c26
          try clear c27
          try clear c28
          try clear p28
          try clear q28
          try clear hx28
          try clear c33
          try clear c33b0
          try clear c34
          try clear c34b0
          try clear c34b1
          try clear c35
          try clear c35b0
          try clear c37
          try clear c37b0
          try clear c38
          try clear c38b0
          try clear p39
          try clear q39
          try clear hx39
          try clear hf39
          try clear c40
          try clear c41
          try clear c42
          try clear c48
          try clear c49
          try clear c50
          try clear c52
          try clear c53
          try clear c55
          try clear c62
          try clear c63
          try clear c64
          try clear p64
          try clear c65
          try clear c70
          try clear c70b0
          try clear c70b1
          try clear c71
          try clear c71b0
          try clear c71b1
          try clear c71b2
          try clear c72
          try clear c73
          try clear c74
          try clear c75
          try clear c77
          try clear c78
          try clear c79
          try clear c82
          try clear c83
          try clear c85
          try clear c86
          try clear c87
          try clear c88
          try clear c90
          try clear c91
          try clear c92
          try clear c95
          try clear hcz11_0
          try clear hcz11_1
          try clear hcz11_2
          try clear hcz11_3
          try clear hcz11_4
          try clear hcz13_0
          try clear hcz13_1
          try clear hcz13_2
          try clear hcz13_3
          try clear hcz13_4
          try clear hcz14_0
          try clear hcz14_1
          try clear hcz14_2
          try clear hcz14_3
          try clear hcz14_4
          try clear hcz14_5
          try clear hcz19_0
          try clear hcz19_1
          try clear hcz19_2
          try clear hcz19_3
          try clear hcz19_4
          try clear hcz23_0
          try clear hcz23_1
          try clear hcz23_2
          try clear hcz23_3
          try clear hcz23_4
          try clear hcz29_0
          try clear hcz29_1
          try clear hcz29_2
          try clear hcz29_3
          try clear hcz29_4
          try clear hcz43_0
          try clear hcz43_1
          try clear hcz43_2
          try clear hcz43_3
          try clear hcz43_4
          try clear hcz51_0
          try clear hcz51_1
          try clear hcz51_2
          try clear hcz51_3
          try clear hcz51_4
          try clear hcz54_0
          try clear hcz54_1
          try clear hcz54_2
          try clear hcz54_3
          try clear hcz54_4
          try clear hcz56_0
          try clear hcz56_1
          try clear hcz56_2
          try clear hcz56_3
          try clear hcz56_4
          try clear hcz56_5
          try clear hcz66_0
          try clear hcz66_1
          try clear hcz66_2
          try clear hcz66_3
          try clear hcz66_4
          try clear hcz76_0
          try clear hcz76_1
          try clear hcz76_2
          try clear hcz76_3
          try clear hcz76_4
          try clear hcz80_0
          try clear hcz80_1
          try clear hcz80_2
          try clear hcz80_3
          try clear hcz80_4
          try clear hcz84_0
          try clear hcz84_1
          try clear hcz84_2
          try clear hcz84_3
          try clear hcz84_4
          try clear hcz84_5
          try clear hcz89_0
          try clear hcz89_1
          try clear hcz89_2
          try clear hcz89_3
          try clear hcz89_4
          try clear hcz93_0
          try clear hcz93_1
          try clear hcz93_2
          try clear hcz93_3
          try clear hcz93_4
          try clear hfz11_0
          try clear hfz11_1
          try clear hfz11_2
          try clear hfz11_3
          try clear hfz11_4
          try clear hfz13_0
          try clear hfz13_1
          try clear hfz13_2
          try clear hfz13_3
          try clear hfz13_4
          try clear hfz14_0
          try clear hfz14_1
          try clear hfz14_2
          try clear hfz14_3
          try clear hfz14_4
          try clear hfz14_5
          try clear hfz19_0
          try clear hfz19_1
          try clear hfz19_2
          try clear hfz19_3
          try clear hfz19_4
          try clear hfz23_0
          try clear hfz23_1
          try clear hfz23_2
          try clear hfz23_3
          try clear hfz23_4
          try clear hfz29_0
          try clear hfz29_1
          try clear hfz29_2
          try clear hfz29_3
          try clear hfz29_4
          try clear hfz43_0
          try clear hfz43_1
          try clear hfz43_2
          try clear hfz43_3
          try clear hfz43_4
          try clear hfz51_0
          try clear hfz51_1
          try clear hfz51_2
          try clear hfz51_3
          try clear hfz51_4
          try clear hfz54_0
          try clear hfz54_1
          try clear hfz54_2
          try clear hfz54_3
          try clear hfz54_4
          try clear hfz56_0
          try clear hfz56_1
          try clear hfz56_2
          try clear hfz56_3
          try clear hfz56_4
          try clear hfz56_5
          try clear hfz66_0
          try clear hfz66_1
          try clear hfz66_2
          try clear hfz66_3
          try clear hfz66_4
          try clear hfz76_0
          try clear hfz76_1
          try clear hfz76_2
          try clear hfz76_3
          try clear hfz76_4
          try clear hfz80_0
          try clear hfz80_1
          try clear hfz80_2
          try clear hfz80_3
          try clear hfz80_4
          try clear hfz84_0
          try clear hfz84_1
          try clear hfz84_2
          try clear hfz84_3
          try clear hfz84_4
          try clear hfz84_5
          try clear hfz89_0
          try clear hfz89_1
          try clear hfz89_2
          try clear hfz89_3
          try clear hfz89_4
          try clear hfz93_0
          try clear hfz93_1
          try clear hfz93_2
          try clear hfz93_3
          try clear hfz93_4
          try clear hx282_0
          try clear hx39_0
          try clear p2
          try clear p28
          try clear p282
          try clear p3
          try clear p39
          try clear p6
          try clear p64
          try clear q2
          try clear q28
          try clear q282
          try clear q3
          try clear q39
          obtain ⟨x11_3, rfl, HA, HK3, HO_269002, HO_269003, HO_269004, HO_282002, HO_282003, HO_282004, HO_297002, HO_297003, HO_297004, BK253, BK254, BK268, BK281, BK296, HB⟩ := hrel
          cases gk with
          | zero => exact absurd HA.out (by simp [cutroomlaw08_MotionMirror.l1])
          | succ k3 =>
           have H := HA.out
           clear HA
           simp only [cutroomlaw08_MotionMirror.l1] at H
           by_cases c96 : x11_3 < (x269002_1.length : Int)
           ·
            rw [if_pos c96] at H
            have c96b0 : decide (x11_3 < (x269002_1.length : Int)) = true := decide_eq_true c96
            clear c96
            by_cases c97 : 0 ≤ x11_3
            ·
             rw [if_pos c97] at H
             have c97b0 : decide (0 ≤ x11_3) = true := decide_eq_true c97
             clear c97
             by_cases c98 : a1_2 = 0
             ·
              rw [if_pos c98] at H
              exact absurd H (by simp)
             ·
              rw [if_neg c98] at H
              have c98b0 : (a1_2 == 0) = false := beq_eq_false_iff_ne.mpr c98
              have c98b1 : (a1_2 != 0) = true := bne_iff_ne.mpr c98
              obtain ⟨ji99, hji99⟩ : ∃ j_ : Int, (wrap64 ((wrap64 ((wrap64 ((wrap64 ((wrap64 (Int.tdiv x11_3 a1_2)) * a1_2)) + a1_2)) - 1)) - (Int.tmod x11_3 a1_2))) = j_ := ⟨_, rfl⟩
              replace H : (if 0 ≤ (ji99) then (if (ji99) < (t286.length : Int) then (if (rd x269002_1 x11_3) = (rd t286 (ji99)) then (cutroomlaw08_MotionMirror.l1 k3 (wrap64 (x11_3 + 1)) a1_0 a1_1 a1_2 a1_3 a1_4 a1_5 t256 t257 x269002_1 x269003_1 x269004_1 t284 t285 t286 t289 t292) else (some false)) else (none)) else (none)) = some r := by first | (rw [hji99] at H; exact H) | (simp only [hji99] at H ⊢; exact H)
              have hji99w : (IntKind.i64.wrap ((wrap64 ((wrap64 ((wrap64 ((wrap64 (Int.tdiv x11_3 a1_2)) * a1_2)) + a1_2)) - 1)) - (Int.tmod x11_3 a1_2))) = ji99 := (i64_w _).trans hji99
              by_cases c100 : 0 ≤ (ji99)
              ·
               rw [if_pos c100] at H
               have c100b0 : decide (0 ≤ (ji99)) = true := decide_eq_true c100
               clear c100
               by_cases c101 : (ji99) < (t286.length : Int)
               ·
                rw [if_pos c101] at H
                have c101b0 : decide ((ji99) < (t286.length : Int)) = true := decide_eq_true c101
                clear c101
                by_cases c102 : (rd x269002_1 x11_3) = (rd t286 (ji99))
                ·
                 rw [if_pos c102] at H
                 have c102b0 : ((rd x269002_1 x11_3) == (rd t286 (ji99))) = true := beq_iff_eq.mpr c102
                 have c102b1 : ((rd x269002_1 x11_3) != (rd t286 (ji99))) = false := bne_eq_false_iff_eq.mpr c102
                 clear c102
                 have H' := Aside0.mk H
                 clear H
                 have hnb103 := NB268_253.out
                 have hnc103 := NB253_268.out
                 have hnb104 := NB268_254.out
                 have hnc104 := NB254_268.out
                 have hnb105 := NB268_281.out
                 have hnc105 := NB281_268.out
                 have hnb106 := NB268_296.out
                 have hnc106 := NB296_268.out
                 have hcz107_0 : wr.cell? ⟨gb268, 0, none⟩ = some (.int .i64 t256) := (blk_cell BK268.out 0).trans rfl
                 have hcz107_1 : wr.cell? ⟨gb268, 1, none⟩ = some (.int .i64 t257) := (blk_cell BK268.out 1).trans rfl
                 have hcz107_2 : wr.cell? ⟨gb268, 2, none⟩ = some (u269002) := (blk_cell BK268.out 2).trans rfl
                 have hcz107_3 : wr.cell? ⟨gb268, 3, none⟩ = some (u269003) := (blk_cell BK268.out 3).trans rfl
                 have hcz107_4 : wr.cell? ⟨gb268, 4, none⟩ = some (u269004) := (blk_cell BK268.out 4).trans rfl
                 have hfz107_0 := blk_frozen BK268.out 0
                 have hfz107_1 := blk_frozen BK268.out 1
                 have hfz107_2 := blk_frozen BK268.out 2
                 have hfz107_3 := blk_frozen BK268.out 3
                 have hfz107_4 := blk_frozen BK268.out 4
                 obtain ⟨Ao108, co108, eo108⟩ := Kd.R_slice HO_269002.out
                 subst eo108
                 try go_wp2
                 have n0_ := Aside0.mk (Kd.R_drew HO_269002.out)
                 have n1_ := Aside0.mk (Kd.R_drew HO_269003.out)
                 have n2_ := Aside0.mk (Kd.R_drew HO_269004.out)
                 have n3_ := Aside0.mk (Kd.R_drew HO_282002.out)
                 have n4_ := Aside0.mk (Kd.R_drew HO_282003.out)
                 have n5_ := Aside0.mk (Kd.R_drew HO_282004.out)
                 have n6_ := Aside0.mk (Kd.R_drew HO_297002.out)
                 have n7_ := Aside0.mk (Kd.R_drew HO_297003.out)
                 have n8_ := Aside0.mk (Kd.R_drew HO_297004.out)
                 have n9_ := Aside0.mk (blk_drew BK253.out)
                 have n10_ := Aside0.mk (blk_drew BK254.out)
                 have n11_ := Aside0.mk (blk_drew BK268.out)
                 have n12_ := Aside0.mk (blk_drew BK281.out)
                 have n13_ := Aside0.mk (blk_drew BK296.out)
                 have n14_ := Aside0.mk (below_drew1 HB.out)
                 clear HO_269002
                 clear HO_269003
                 clear HO_269004
                 clear HO_282002
                 clear HO_282003
                 clear HO_282004
                 clear HO_297002
                 clear HO_297003
                 clear HO_297004
                 clear BK253
                 clear BK254
                 clear BK268
                 clear BK281
                 clear BK296
                 clear HB
                 have HO_269002 := n0_
                 have HO_269003 := n1_
                 have HO_269004 := n2_
                 have HO_282002 := n3_
                 have HO_282003 := n4_
                 have HO_282004 := n5_
                 have HO_297002 := n6_
                 have HO_297003 := n7_
                 have HO_297004 := n8_
                 have BK253 := n9_
                 have BK254 := n10_
                 have BK268 := n11_
                 have BK281 := n12_
                 have BK296 := n13_
                 have HB := n14_
                 clear n0_ n1_ n2_ n3_ n4_ n5_ n6_ n7_ n8_ n9_ n10_ n11_ n12_ n13_ n14_
                 have p297 : 0 ≤ (x11_3 : Int) := of_decide_eq_true (by first | (with_reducible assumption) | assumption)
                 have q297 : x11_3 < (x269002_1.length : Int) := of_decide_eq_true (by first | (with_reducible assumption) | assumption)
                 obtain ⟨ad297, e297, hx297_0⟩ := Kd.at_int (Kd.R_reads' HO_269002.out).2.2 x11_3 p297 q297
                 cases e297
                 replace p297 := eq_true p297
                 replace q297 := eq_true q297
                 have p298 : 0 ≤ ((ji99) : Int) := of_decide_eq_true (by first | (with_reducible assumption) | assumption)
                 have q298 : (ji99) < (t286.length : Int) := of_decide_eq_true (by first | (with_reducible assumption) | assumption)
                 obtain ⟨ad298, e298, hx298_0⟩ := Kd.at_int (Kd.R_reads' HO_297002.out).2.2 (ji99) p298 q298
                 cases e298
                 replace p298 := eq_true p298
                 replace q298 := eq_true q298
                 refine start_ (n := 26) (S := fun w' => w'.cell? ⟨gb268, 0, none⟩ = some (.int .i64 t256) ∧ w'.cell? ⟨gb268, 1, none⟩ = some (.int .i64 t257) ∧ w'.cell? ⟨gb268, 2, none⟩ = some (.slice (some ad297) x269002_1.length co108) ∧ w'.cell? ⟨gb268, 3, none⟩ = some (u269003) ∧ w'.cell? ⟨gb268, 4, none⟩ = some (u269004) ∧ w'.cell? ⟨gb296, 0, none⟩ = some (.int .i64 t284) ∧ w'.cell? ⟨gb296, 1, none⟩ = some (.int .i64 t285) ∧ w'.cell? ⟨gb296, 2, none⟩ = some (.slice (some ad298) t286.length co67) ∧ w'.cell? ⟨gb296, 3, none⟩ = some (.slice Ao68 t289.length co68) ∧ w'.cell? ⟨gb296, 4, none⟩ = some (.slice Ao69 t292.length co69) ∧ w'.cell? ⟨gb254, 0, none⟩ = some (.int .i64 a1_0) ∧ w'.cell? ⟨gb254, 1, none⟩ = some (.int .i64 a1_1) ∧ w'.cell? ⟨gb254, 2, none⟩ = some (.int .i64 a1_2) ∧ w'.cell? ⟨gb254, 3, none⟩ = some (.int .i64 a1_3) ∧ w'.cell? ⟨gb254, 4, none⟩ = some (.int .i64 a1_4) ∧ w'.cell? ⟨gb254, 5, none⟩ = some (.int .i64 a1_5) ∧ w'.cell? (ad297.add (x11_3).toNat) = some (.int .u8 (rd x269002_1 x11_3)) ∧ w'.cell? (ad298.add ((ji99)).toNat) = some (.int .u8 (rd t286 (ji99)))) (ds := []) #[false, false, false, false, false, false, false, false, false, false, false, false, false, false, false, false, false, false, false, false, false, false, false, false, false, false] (by kernel_rfl) rfl rfl ⟨(blk_cell BK268.out 0).trans rfl, (blk_cell BK268.out 1).trans rfl, (blk_cell BK268.out 2).trans rfl, (blk_cell BK268.out 3).trans rfl, (blk_cell BK268.out 4).trans rfl, (blk_cell BK296.out 0).trans rfl, (blk_cell BK296.out 1).trans rfl, (blk_cell BK296.out 2).trans rfl, (blk_cell BK296.out 3).trans rfl, (blk_cell BK296.out 4).trans rfl, (blk_cell BK254.out 0).trans rfl, (blk_cell BK254.out 1).trans rfl, (blk_cell BK254.out 2).trans rfl, (blk_cell BK254.out 3).trans rfl, (blk_cell BK254.out 4).trans rfl, (blk_cell BK254.out 5).trans rfl, hx297_0, hx298_0⟩ (fun hHeld => ?_); refine with_tabW cutroomlaw08_MotionMirror.tab17 cutroomlaw08_MotionMirror.bits17 (fun HT_ HW_ => ?_)
                 generalize wr.drew = w109 at HO_269002 HO_269003 HO_269004 HO_282002 HO_282003 HO_282004 HO_297002 HO_297003 HO_297004 BK253 BK254 BK268 BK281 BK296 HB hx297_0 hx298_0 hHeld ⊢
                 refine pure_ (i := 0) (N := some 122) (v := ?_) (a' := ?_) #[true, false, false, false, false, false, false, false, false, false, false, false, false, false, false, false, false, false, false, false, false, false, false, false, false, false] rfl rfl (any_of HT_.out (by kernel_rfl)) (fun _ _ _ h => h) (Or.inl ⟨by rfl, ?_⟩) ?_ ?_
                 rotate_left
                 ·
                  intro w'
                  go_simp
                  with_reducible rfl
                 rotate_left
                 ·
                  simp only [Act.put, List.setIfInBounds_toArray, List.set_cons_zero, List.set_cons_succ, i64_w, i32_w]
                  rfl
                 refine pure_ (i := 2) (N := some 124) (v := ?_) (a' := ?_) #[true, false, true, false, false, false, false, false, false, false, false, false, false, false, false, false, false, false, false, false, false, false, false, false, false, false] rfl rfl (any_of HT_.out (by kernel_rfl)) (fun _ _ _ h => h) (Or.inl ⟨by rfl, ?_⟩) ?_ ?_
                 rotate_left
                 ·
                  intro w'
                  go_simp
                  with_reducible rfl
                 rotate_left
                 ·
                  simp only [Act.put, List.setIfInBounds_toArray, List.set_cons_zero, List.set_cons_succ, i64_w, i32_w]
                  rfl
                 refine pure_ (i := 5) (N := some 127) (v := ?_) (a' := ?_) #[true, false, true, false, false, true, false, false, false, false, false, false, false, false, false, false, false, false, false, false, false, false, false, false, false, false] rfl rfl (any_of HT_.out (by kernel_rfl)) (fun _ _ _ h => h) (Or.inl ⟨by rfl, ?_⟩) ?_ ?_
                 rotate_left
                 ·
                  intro w'
                  go_simp
                  with_reducible rfl
                 rotate_left
                 ·
                  simp only [Act.put, List.setIfInBounds_toArray, List.set_cons_zero, List.set_cons_succ, i64_w, i32_w]
                  rfl
                 refine pure_ (i := 7) (N := some 129) (v := ?_) (a' := ?_) #[true, false, true, false, false, true, false, true, false, false, false, false, false, false, false, false, false, false, false, false, false, false, false, false, false, false] rfl rfl (any_of HT_.out (by kernel_rfl)) (fun _ _ _ h => h) (Or.inl ⟨by rfl, ?_⟩) ?_ ?_
                 rotate_left
                 ·
                  intro w'
                  go_simp
                  with_reducible rfl
                 rotate_left
                 ·
                  simp only [Act.put, List.setIfInBounds_toArray, List.set_cons_zero, List.set_cons_succ, i64_w, i32_w]
                  rfl
                 refine pure_ (i := 8) (N := some 130) (v := ?_) (a' := ?_) #[true, false, true, false, false, true, false, true, true, false, false, false, false, false, false, false, false, false, false, false, false, false, false, false, false, false] rfl rfl (any_of HT_.out (by kernel_rfl)) (fun _ _ _ h => h) (Or.inl ⟨by rfl, ?_⟩) ?_ ?_
                 rotate_left
                 ·
                  intro w'
                  go_simp
                  with_reducible rfl
                 rotate_left
                 ·
                  simp only [Act.put, List.setIfInBounds_toArray, List.set_cons_zero, List.set_cons_succ, i64_w, i32_w]
                  rfl
                 refine pure_ (i := 11) (N := some 133) (v := ?_) (a' := ?_) #[true, false, true, false, false, true, false, true, true, false, false, true, false, false, false, false, false, false, false, false, false, false, false, false, false, false] rfl rfl (any_of HT_.out (by kernel_rfl)) (fun _ _ _ h => h) (Or.inl ⟨by rfl, ?_⟩) ?_ ?_
                 rotate_left
                 ·
                  intro w'
                  go_simp
                  with_reducible rfl
                 rotate_left
                 ·
                  simp only [Act.put, List.setIfInBounds_toArray, List.set_cons_zero, List.set_cons_succ, i64_w, i32_w]
                  rfl
                 refine pure_ (i := 14) (N := some 136) (v := ?_) (a' := ?_) #[true, false, true, false, false, true, false, true, true, false, false, true, false, false, true, false, false, false, false, false, false, false, false, false, false, false] rfl rfl (any_of HT_.out (by kernel_rfl)) (fun _ _ _ h => h) (Or.inl ⟨by rfl, ?_⟩) ?_ ?_
                 rotate_left
                 ·
                  intro w'
                  go_simp
                  with_reducible rfl
                 rotate_left
                 ·
                  simp only [Act.put, List.setIfInBounds_toArray, List.set_cons_zero, List.set_cons_succ, i64_w, i32_w]
                  rfl
                 refine pure_ (i := 18) (N := some 140) (v := ?_) (a' := ?_) #[true, false, true, false, false, true, false, true, true, false, false, true, false, false, true, false, false, false, true, false, false, false, false, false, false, false] rfl rfl (any_of HT_.out (by kernel_rfl)) (fun _ _ _ h => h) (Or.inl ⟨by rfl, ?_⟩) ?_ ?_
                 rotate_left
                 ·
                  intro w'
                  go_simp
                  with_reducible rfl
                 rotate_left
                 ·
                  simp only [Act.put, List.setIfInBounds_toArray, List.set_cons_zero, List.set_cons_succ, i64_w, i32_w]
                  rfl
                 refine pure_ (i := 19) (N := some 141) (v := ?_) (a' := ?_) #[true, false, true, false, false, true, false, true, true, false, false, true, false, false, true, false, false, false, true, true, false, false, false, false, false, false] rfl rfl (any_of HT_.out (by kernel_rfl)) (fun _ _ _ h => h) (Or.inl ⟨by rfl, ?_⟩) ?_ ?_
                 rotate_left
                 ·
                  intro w'
                  go_simp
                  with_reducible rfl
                 rotate_left
                 ·
                  simp only [Act.put, List.setIfInBounds_toArray, List.set_cons_zero, List.set_cons_succ, i64_w, i32_w]
                  rfl
                 refine take_ (i := 1) (N := some 123) (v := ?_) (a' := ?_) #[true, true, true, false, false, true, false, true, true, false, false, true, false, false, true, false, false, false, true, true, false, false, false, false, false, false] rfl rfl (take_ofW HT_.out HW_.out (by kernel_rfl)) (fun _ _ _ h => h) (Or.inl ⟨by rfl, ?_⟩) hHeld ?_ ?_
                 rotate_left
                 ·
                  rintro w' ⟨s0, s1, s2, s3, s4, s5, s6, s7, s8, s9, s10, s11, s12, s13, s14, s15, s16, s17⟩
                  go_simp
                  with_reducible rfl
                 rotate_left
                 ·
                  simp only [Act.put, List.setIfInBounds_toArray, List.set_cons_zero, List.set_cons_succ, i64_w, i32_w]
                  rfl
                 refine pure_ (i := 3) (N := some 125) (v := ?_) (a' := ?_) #[true, true, true, true, false, true, false, true, true, false, false, true, false, false, true, false, false, false, true, true, false, false, false, false, false, false] rfl rfl (any_of HT_.out (by kernel_rfl)) (fun _ _ _ h => h) (Or.inl ⟨by rfl, ?_⟩) ?_ ?_
                 rotate_left
                 ·
                  intro w'
                  go_simp
                  with_reducible rfl
                 rotate_left
                 ·
                  simp only [Act.put, List.setIfInBounds_toArray, List.set_cons_zero, List.set_cons_succ, i64_w, i32_w]
                  rfl
                 refine take_ (i := 4) (N := some 126) (v := ?_) (a' := ?_) #[true, true, true, true, true, true, false, true, true, false, false, true, false, false, true, false, false, false, true, true, false, false, false, false, false, false] rfl rfl (take_ofW HT_.out HW_.out (by kernel_rfl)) (fun _ _ _ h => h) (Or.inl ⟨by rfl, ?_⟩) hHeld ?_ ?_
                 rotate_left
                 ·
                  rintro w' ⟨s0, s1, s2, s3, s4, s5, s6, s7, s8, s9, s10, s11, s12, s13, s14, s15, s16, s17⟩
                  go_simp
                  with_reducible rfl
                 rotate_left
                 ·
                  simp only [Act.put, List.setIfInBounds_toArray, List.set_cons_zero, List.set_cons_succ, i64_w, i32_w]
                  rfl
                 refine take_ (i := 6) (N := some 128) (v := ?_) (a' := ?_) #[true, true, true, true, true, true, true, true, true, false, false, true, false, false, true, false, false, false, true, true, false, false, false, false, false, false] rfl rfl (take_ofW HT_.out HW_.out (by kernel_rfl)) (fun _ _ _ h => h) (Or.inl ⟨by rfl, ?_⟩) hHeld ?_ ?_
                 rotate_left
                 ·
                  rintro w' ⟨s0, s1, s2, s3, s4, s5, s6, s7, s8, s9, s10, s11, s12, s13, s14, s15, s16, s17⟩
                  go_simp
                  with_reducible rfl
                 rotate_left
                 ·
                  simp only [Act.put, List.setIfInBounds_toArray, List.set_cons_zero, List.set_cons_succ, i64_w, i32_w]
                  rfl
                 refine take_ (i := 9) (N := some 131) (v := ?_) (a' := ?_) #[true, true, true, true, true, true, true, true, true, true, false, true, false, false, true, false, false, false, true, true, false, false, false, false, false, false] rfl rfl (take_ofW HT_.out HW_.out (by kernel_rfl)) (fun _ _ _ h => h) (Or.inl ⟨by rfl, ?_⟩) hHeld ?_ ?_
                 rotate_left
                 ·
                  rintro w' ⟨s0, s1, s2, s3, s4, s5, s6, s7, s8, s9, s10, s11, s12, s13, s14, s15, s16, s17⟩
                  go_simp
                  with_reducible rfl
                 rotate_left
                 ·
                  simp only [Act.put, List.setIfInBounds_toArray, List.set_cons_zero, List.set_cons_succ, i64_w, i32_w]
                  rfl
                 refine pure_ (i := 10) (N := some 132) (v := ?_) (a' := ?_) #[true, true, true, true, true, true, true, true, true, true, true, true, false, false, true, false, false, false, true, true, false, false, false, false, false, false] rfl rfl (any_of HT_.out (by kernel_rfl)) (fun _ _ _ h => h) (Or.inl ⟨by rfl, ?_⟩) ?_ ?_
                 rotate_left
                 ·
                  intro w'
                  go_simp
                  with_reducible rfl
                 rotate_left
                 ·
                  simp only [Act.put, List.setIfInBounds_toArray, List.set_cons_zero, List.set_cons_succ, i64_w, i32_w]
                  rfl
                 refine take_ (i := 12) (N := some 134) (v := ?_) (a' := ?_) #[true, true, true, true, true, true, true, true, true, true, true, true, true, false, true, false, false, false, true, true, false, false, false, false, false, false] rfl rfl (take_ofW HT_.out HW_.out (by kernel_rfl)) (fun _ _ _ h => h) (Or.inl ⟨by rfl, ?_⟩) hHeld ?_ ?_
                 rotate_left
                 ·
                  rintro w' ⟨s0, s1, s2, s3, s4, s5, s6, s7, s8, s9, s10, s11, s12, s13, s14, s15, s16, s17⟩
                  go_simp
                  with_reducible rfl
                 rotate_left
                 ·
                  simp only [Act.put, List.setIfInBounds_toArray, List.set_cons_zero, List.set_cons_succ, i64_w, i32_w]
                  rfl
                 refine pure_ (i := 13) (N := some 135) (v := ?_) (a' := ?_) #[true, true, true, true, true, true, true, true, true, true, true, true, true, true, true, false, false, false, true, true, false, false, false, false, false, false] rfl rfl (any_of HT_.out (by kernel_rfl)) (fun _ _ _ h => h) (Or.inl ⟨by rfl, ?_⟩) ?_ ?_
                 rotate_left
                 ·
                  intro w'
                  go_simp
                  with_reducible rfl
                 rotate_left
                 ·
                  simp only [Act.put, List.setIfInBounds_toArray, List.set_cons_zero, List.set_cons_succ, i64_w, i32_w]
                  rfl
                 refine take_ (i := 15) (N := some 137) (v := ?_) (a' := ?_) #[true, true, true, true, true, true, true, true, true, true, true, true, true, true, true, true, false, false, true, true, false, false, false, false, false, false] rfl rfl (take_ofW HT_.out HW_.out (by kernel_rfl)) (fun _ _ _ h => h) (Or.inl ⟨by rfl, ?_⟩) hHeld ?_ ?_
                 rotate_left
                 ·
                  rintro w' ⟨s0, s1, s2, s3, s4, s5, s6, s7, s8, s9, s10, s11, s12, s13, s14, s15, s16, s17⟩
                  go_simp
                  with_reducible rfl
                 rotate_left
                 ·
                  simp only [Act.put, List.setIfInBounds_toArray, List.set_cons_zero, List.set_cons_succ, i64_w, i32_w]
                  rfl
                 refine pure_ (i := 16) (N := some 138) (v := ?_) (a' := ?_) #[true, true, true, true, true, true, true, true, true, true, true, true, true, true, true, true, true, false, true, true, false, false, false, false, false, false] rfl rfl (any_of HT_.out (by kernel_rfl)) (fun _ _ _ h => h) (Or.inl ⟨by rfl, ?_⟩) ?_ ?_
                 rotate_left
                 ·
                  intro w'
                  go_simp
                  with_reducible rfl
                 rotate_left
                 ·
                  simp only [Act.put, List.setIfInBounds_toArray, List.set_cons_zero, List.set_cons_succ, i64_w, i32_w]
                  rfl
                 refine pure_ (i := 17) (N := some 139) (v := ?_) (a' := ?_) #[true, true, true, true, true, true, true, true, true, true, true, true, true, true, true, true, true, true, true, true, false, false, false, false, false, false] rfl rfl (any_of HT_.out (by kernel_rfl)) (fun _ _ _ h => h) (Or.inl ⟨by rfl, ?_⟩) ?_ ?_
                 rotate_left
                 ·
                  intro w'
                  go_simp
                  with_reducible rfl
                 rotate_left
                 ·
                  simp only [Act.put, List.setIfInBounds_toArray, List.set_cons_zero, List.set_cons_succ, i64_w, i32_w]
                  rfl
                 refine take_ (i := 20) (N := some 142) (v := ?_) (a' := ?_) #[true, true, true, true, true, true, true, true, true, true, true, true, true, true, true, true, true, true, true, true, true, false, false, false, false, false] rfl rfl (take_ofW HT_.out HW_.out (by kernel_rfl)) (fun _ _ _ h => h) (Or.inl ⟨by rfl, ?_⟩) hHeld ?_ ?_
                 rotate_left
                 ·
                  rintro w' ⟨s0, s1, s2, s3, s4, s5, s6, s7, s8, s9, s10, s11, s12, s13, s14, s15, s16, s17⟩
                  go_simp
                  with_reducible rfl
                 rotate_left
                 ·
                  simp only [Act.put, List.setIfInBounds_toArray, List.set_cons_zero, List.set_cons_succ, i64_w, i32_w]
                  rfl
                 refine pure_ (i := 21) (N := some 143) (v := ?_) (a' := ?_) #[true, true, true, true, true, true, true, true, true, true, true, true, true, true, true, true, true, true, true, true, true, true, false, false, false, false] rfl rfl (any_of HT_.out (by kernel_rfl)) (fun _ _ _ h => h) (Or.inl ⟨by rfl, ?_⟩) ?_ ?_
                 rotate_left
                 ·
                  intro w'
                  go_simp
                  with_reducible rfl
                 rotate_left
                 ·
                  simp only [Act.put, List.setIfInBounds_toArray, List.set_cons_zero, List.set_cons_succ, i64_w, i32_w]
                  rfl
                 refine pure_ (i := 22) (N := some 144) (v := ?_) (a' := ?_) #[true, true, true, true, true, true, true, true, true, true, true, true, true, true, true, true, true, true, true, true, true, true, true, false, false, false] rfl rfl (any_of HT_.out (by kernel_rfl)) (fun _ _ _ h => h) (Or.inl ⟨by rfl, ?_⟩) ?_ ?_
                 rotate_left
                 ·
                  intro w'
                  go_simp
                  with_reducible rfl
                 rotate_left
                 ·
                  simp only [Act.put, List.setIfInBounds_toArray, List.set_cons_zero, List.set_cons_succ, i64_w, i32_w]
                  rfl
                 refine pure_ (i := 23) (N := some 145) (v := ?_) (a' := ?_) #[true, true, true, true, true, true, true, true, true, true, true, true, true, true, true, true, true, true, true, true, true, true, true, true, false, false] rfl rfl (any_of HT_.out (by kernel_rfl)) (fun _ _ _ h => h) (Or.inl ⟨by rfl, ?_⟩) ?_ ?_
                 rotate_left
                 ·
                  intro w'
                  go_simp
                  with_reducible rfl
                 rotate_left
                 ·
                  simp only [Act.put, List.setIfInBounds_toArray, List.set_cons_zero, List.set_cons_succ, i64_w, i32_w]
                  rfl
                 refine take_ (i := 24) (N := some 146) (v := ?_) (a' := ?_) #[true, true, true, true, true, true, true, true, true, true, true, true, true, true, true, true, true, true, true, true, true, true, true, true, true, false] rfl rfl (take_ofW HT_.out HW_.out (by kernel_rfl)) (fun _ _ _ h => h) (Or.inl ⟨by rfl, ?_⟩) hHeld ?_ ?_
                 rotate_left
                 ·
                  rintro w' ⟨s0, s1, s2, s3, s4, s5, s6, s7, s8, s9, s10, s11, s12, s13, s14, s15, s16, s17⟩
                  go_simp
                  with_reducible rfl
                 rotate_left
                 ·
                  simp only [Act.put, List.setIfInBounds_toArray, List.set_cons_zero, List.set_cons_succ, i64_w, i32_w]
                  rfl
                 refine pure_ (i := 25) (N := some 147) (v := ?_) (a' := ?_) #[true, true, true, true, true, true, true, true, true, true, true, true, true, true, true, true, true, true, true, true, true, true, true, true, true, true] rfl rfl (any_of HT_.out (by kernel_rfl)) (fun _ _ _ h => h) (Or.inl ⟨by rfl, ?_⟩) ?_ ?_
                 rotate_left
                 ·
                  intro w'
                  go_simp
                  with_reducible rfl
                 rotate_left
                 ·
                  simp only [Act.put, List.setIfInBounds_toArray, List.set_cons_zero, List.set_cons_succ, i64_w, i32_w]
                  rfl
                 refine done_ (done_of HT_.out (by kernel_rfl)) ?_
                 try go_wp2
                 go_roundg k3
                 case measure => have := HK1.out; have := HJ46.out; have := HK3.out; omega
                 case rel => exact ⟨(wrap64 (x11_3 + 1)), (by first | rfl | (simp; done) | (simp [*]; done)), H', ⟨by have := HK1.out; have := HJ46.out; have := HK3.out; omega⟩, ⟨by (with_reducible repeat (first | apply Kd.R_alloc | apply Kd.R_drewN | apply Kd.R_drew)); exact HO_269002.out⟩, ⟨by (with_reducible repeat (first | apply Kd.R_alloc | apply Kd.R_drewN | apply Kd.R_drew)); exact HO_269003.out⟩, ⟨by (with_reducible repeat (first | apply Kd.R_alloc | apply Kd.R_drewN | apply Kd.R_drew)); exact HO_269004.out⟩, ⟨by (with_reducible repeat (first | apply Kd.R_alloc | apply Kd.R_drewN | apply Kd.R_drew)); exact HO_282002.out⟩, ⟨by (with_reducible repeat (first | apply Kd.R_alloc | apply Kd.R_drewN | apply Kd.R_drew)); exact HO_282003.out⟩, ⟨by (with_reducible repeat (first | apply Kd.R_alloc | apply Kd.R_drewN | apply Kd.R_drew)); exact HO_282004.out⟩, ⟨by (with_reducible repeat (first | apply Kd.R_alloc | apply Kd.R_drewN | apply Kd.R_drew)); exact HO_297002.out⟩, ⟨by (with_reducible repeat (first | apply Kd.R_alloc | apply Kd.R_drewN | apply Kd.R_drew)); exact HO_297003.out⟩, ⟨by (with_reducible repeat (first | apply Kd.R_alloc | apply Kd.R_drewN | apply Kd.R_drew)); exact HO_297004.out⟩, ⟨by (with_reducible repeat (first | refine blk_drewN ?_ _ | refine blk_drew ?_ | refine blk_alloc ?_ _)); exact BK253.out⟩, ⟨by (with_reducible repeat (first | refine blk_drewN ?_ _ | refine blk_drew ?_ | refine blk_alloc ?_ _)); exact BK254.out⟩, ⟨by (with_reducible repeat (first | refine blk_drewN ?_ _ | refine blk_drew ?_ | refine blk_alloc ?_ _)); exact BK268.out⟩, ⟨by (with_reducible repeat (first | refine blk_drewN ?_ _ | refine blk_drew ?_ | refine blk_alloc ?_ _)); exact BK281.out⟩, ⟨by (with_reducible repeat (first | refine blk_drewN ?_ _ | refine blk_drew ?_ | refine blk_alloc ?_ _)); exact BK296.out⟩, ⟨by repeat (first | (with_reducible first | exact HB.out | apply below_alloc | apply pw_below_drewN | apply below_drew1 | refine below_set ?_ GE253.out | refine below_set ?_ GE254.out | refine below_set ?_ GE268.out | refine below_set ?_ GE281.out | refine below_set ?_ GE296.out) | exact HB.out)⟩⟩
                ·
                 rw [if_neg c102] at H
                 have c102b0 : ((rd x269002_1 x11_3) == (rd t286 (ji99))) = false := beq_eq_false_iff_ne.mpr c102
                 have c102b1 : ((rd x269002_1 x11_3) != (rd t286 (ji99))) = true := bne_iff_ne.mpr c102
                 obtain rfl := Option.some.inj H
                 have hnb110 := NB268_253.out
                 have hnc110 := NB253_268.out
                 have hnb111 := NB268_254.out
                 have hnc111 := NB254_268.out
                 have hnb112 := NB268_281.out
                 have hnc112 := NB281_268.out
                 have hnb113 := NB268_296.out
                 have hnc113 := NB296_268.out
                 have hcz114_0 : wr.cell? ⟨gb268, 0, none⟩ = some (.int .i64 t256) := (blk_cell BK268.out 0).trans rfl
                 have hcz114_1 : wr.cell? ⟨gb268, 1, none⟩ = some (.int .i64 t257) := (blk_cell BK268.out 1).trans rfl
                 have hcz114_2 : wr.cell? ⟨gb268, 2, none⟩ = some (u269002) := (blk_cell BK268.out 2).trans rfl
                 have hcz114_3 : wr.cell? ⟨gb268, 3, none⟩ = some (u269003) := (blk_cell BK268.out 3).trans rfl
                 have hcz114_4 : wr.cell? ⟨gb268, 4, none⟩ = some (u269004) := (blk_cell BK268.out 4).trans rfl
                 have hfz114_0 := blk_frozen BK268.out 0
                 have hfz114_1 := blk_frozen BK268.out 1
                 have hfz114_2 := blk_frozen BK268.out 2
                 have hfz114_3 := blk_frozen BK268.out 3
                 have hfz114_4 := blk_frozen BK268.out 4
                 obtain ⟨Ao115, co115, eo115⟩ := Kd.R_slice HO_269002.out
                 subst eo115
                 try go_wp2
                 have n0_ := Aside0.mk (Kd.R_drew HO_269002.out)
                 have n1_ := Aside0.mk (Kd.R_drew HO_269003.out)
                 have n2_ := Aside0.mk (Kd.R_drew HO_269004.out)
                 have n3_ := Aside0.mk (Kd.R_drew HO_282002.out)
                 have n4_ := Aside0.mk (Kd.R_drew HO_282003.out)
                 have n5_ := Aside0.mk (Kd.R_drew HO_282004.out)
                 have n6_ := Aside0.mk (Kd.R_drew HO_297002.out)
                 have n7_ := Aside0.mk (Kd.R_drew HO_297003.out)
                 have n8_ := Aside0.mk (Kd.R_drew HO_297004.out)
                 have n9_ := Aside0.mk (blk_drew BK253.out)
                 have n10_ := Aside0.mk (blk_drew BK254.out)
                 have n11_ := Aside0.mk (blk_drew BK268.out)
                 have n12_ := Aside0.mk (blk_drew BK281.out)
                 have n13_ := Aside0.mk (blk_drew BK296.out)
                 have n14_ := Aside0.mk (below_drew1 HB.out)
                 clear HO_269002
                 clear HO_269003
                 clear HO_269004
                 clear HO_282002
                 clear HO_282003
                 clear HO_282004
                 clear HO_297002
                 clear HO_297003
                 clear HO_297004
                 clear BK253
                 clear BK254
                 clear BK268
                 clear BK281
                 clear BK296
                 clear HB
                 have HO_269002 := n0_
                 have HO_269003 := n1_
                 have HO_269004 := n2_
                 have HO_282002 := n3_
                 have HO_282003 := n4_
                 have HO_282004 := n5_
                 have HO_297002 := n6_
                 have HO_297003 := n7_
                 have HO_297004 := n8_
                 have BK253 := n9_
                 have BK254 := n10_
                 have BK268 := n11_
                 have BK281 := n12_
                 have BK296 := n13_
                 have HB := n14_
                 clear n0_ n1_ n2_ n3_ n4_ n5_ n6_ n7_ n8_ n9_ n10_ n11_ n12_ n13_ n14_
                 have p297 : 0 ≤ (x11_3 : Int) := of_decide_eq_true (by first | (with_reducible assumption) | assumption)
                 have q297 : x11_3 < (x269002_1.length : Int) := of_decide_eq_true (by first | (with_reducible assumption) | assumption)
                 obtain ⟨ad297, e297, hx297_0⟩ := Kd.at_int (Kd.R_reads' HO_269002.out).2.2 x11_3 p297 q297
                 cases e297
                 replace p297 := eq_true p297
                 replace q297 := eq_true q297
                 have p298 : 0 ≤ ((ji99) : Int) := of_decide_eq_true (by first | (with_reducible assumption) | assumption)
                 have q298 : (ji99) < (t286.length : Int) := of_decide_eq_true (by first | (with_reducible assumption) | assumption)
                 obtain ⟨ad298, e298, hx298_0⟩ := Kd.at_int (Kd.R_reads' HO_297002.out).2.2 (ji99) p298 q298
                 cases e298
                 replace p298 := eq_true p298
                 replace q298 := eq_true q298
                 refine start_ (n := 26) (S := fun w' => w'.cell? ⟨gb268, 0, none⟩ = some (.int .i64 t256) ∧ w'.cell? ⟨gb268, 1, none⟩ = some (.int .i64 t257) ∧ w'.cell? ⟨gb268, 2, none⟩ = some (.slice (some ad297) x269002_1.length co115) ∧ w'.cell? ⟨gb268, 3, none⟩ = some (u269003) ∧ w'.cell? ⟨gb268, 4, none⟩ = some (u269004) ∧ w'.cell? ⟨gb296, 0, none⟩ = some (.int .i64 t284) ∧ w'.cell? ⟨gb296, 1, none⟩ = some (.int .i64 t285) ∧ w'.cell? ⟨gb296, 2, none⟩ = some (.slice (some ad298) t286.length co67) ∧ w'.cell? ⟨gb296, 3, none⟩ = some (.slice Ao68 t289.length co68) ∧ w'.cell? ⟨gb296, 4, none⟩ = some (.slice Ao69 t292.length co69) ∧ w'.cell? ⟨gb254, 0, none⟩ = some (.int .i64 a1_0) ∧ w'.cell? ⟨gb254, 1, none⟩ = some (.int .i64 a1_1) ∧ w'.cell? ⟨gb254, 2, none⟩ = some (.int .i64 a1_2) ∧ w'.cell? ⟨gb254, 3, none⟩ = some (.int .i64 a1_3) ∧ w'.cell? ⟨gb254, 4, none⟩ = some (.int .i64 a1_4) ∧ w'.cell? ⟨gb254, 5, none⟩ = some (.int .i64 a1_5) ∧ w'.cell? (ad297.add (x11_3).toNat) = some (.int .u8 (rd x269002_1 x11_3)) ∧ w'.cell? (ad298.add ((ji99)).toNat) = some (.int .u8 (rd t286 (ji99)))) (ds := []) #[false, false, false, false, false, false, false, false, false, false, false, false, false, false, false, false, false, false, false, false, false, false, false, false, false, false] (by kernel_rfl) rfl rfl ⟨(blk_cell BK268.out 0).trans rfl, (blk_cell BK268.out 1).trans rfl, (blk_cell BK268.out 2).trans rfl, (blk_cell BK268.out 3).trans rfl, (blk_cell BK268.out 4).trans rfl, (blk_cell BK296.out 0).trans rfl, (blk_cell BK296.out 1).trans rfl, (blk_cell BK296.out 2).trans rfl, (blk_cell BK296.out 3).trans rfl, (blk_cell BK296.out 4).trans rfl, (blk_cell BK254.out 0).trans rfl, (blk_cell BK254.out 1).trans rfl, (blk_cell BK254.out 2).trans rfl, (blk_cell BK254.out 3).trans rfl, (blk_cell BK254.out 4).trans rfl, (blk_cell BK254.out 5).trans rfl, hx297_0, hx298_0⟩ (fun hHeld => ?_); refine with_tabW cutroomlaw08_MotionMirror.tab17 cutroomlaw08_MotionMirror.bits17 (fun HT_ HW_ => ?_)
                 generalize wr.drew = w116 at HO_269002 HO_269003 HO_269004 HO_282002 HO_282003 HO_282004 HO_297002 HO_297003 HO_297004 BK253 BK254 BK268 BK281 BK296 HB hx297_0 hx298_0 hHeld ⊢
                 refine pure_ (i := 0) (N := some 122) (v := ?_) (a' := ?_) #[true, false, false, false, false, false, false, false, false, false, false, false, false, false, false, false, false, false, false, false, false, false, false, false, false, false] rfl rfl (any_of HT_.out (by kernel_rfl)) (fun _ _ _ h => h) (Or.inl ⟨by rfl, ?_⟩) ?_ ?_
                 rotate_left
                 ·
                  intro w'
                  go_simp
                  with_reducible rfl
                 rotate_left
                 ·
                  simp only [Act.put, List.setIfInBounds_toArray, List.set_cons_zero, List.set_cons_succ, i64_w, i32_w]
                  rfl
                 refine pure_ (i := 2) (N := some 124) (v := ?_) (a' := ?_) #[true, false, true, false, false, false, false, false, false, false, false, false, false, false, false, false, false, false, false, false, false, false, false, false, false, false] rfl rfl (any_of HT_.out (by kernel_rfl)) (fun _ _ _ h => h) (Or.inl ⟨by rfl, ?_⟩) ?_ ?_
                 rotate_left
                 ·
                  intro w'
                  go_simp
                  with_reducible rfl
                 rotate_left
                 ·
                  simp only [Act.put, List.setIfInBounds_toArray, List.set_cons_zero, List.set_cons_succ, i64_w, i32_w]
                  rfl
                 refine pure_ (i := 5) (N := some 127) (v := ?_) (a' := ?_) #[true, false, true, false, false, true, false, false, false, false, false, false, false, false, false, false, false, false, false, false, false, false, false, false, false, false] rfl rfl (any_of HT_.out (by kernel_rfl)) (fun _ _ _ h => h) (Or.inl ⟨by rfl, ?_⟩) ?_ ?_
                 rotate_left
                 ·
                  intro w'
                  go_simp
                  with_reducible rfl
                 rotate_left
                 ·
                  simp only [Act.put, List.setIfInBounds_toArray, List.set_cons_zero, List.set_cons_succ, i64_w, i32_w]
                  rfl
                 refine pure_ (i := 7) (N := some 129) (v := ?_) (a' := ?_) #[true, false, true, false, false, true, false, true, false, false, false, false, false, false, false, false, false, false, false, false, false, false, false, false, false, false] rfl rfl (any_of HT_.out (by kernel_rfl)) (fun _ _ _ h => h) (Or.inl ⟨by rfl, ?_⟩) ?_ ?_
                 rotate_left
                 ·
                  intro w'
                  go_simp
                  with_reducible rfl
                 rotate_left
                 ·
                  simp only [Act.put, List.setIfInBounds_toArray, List.set_cons_zero, List.set_cons_succ, i64_w, i32_w]
                  rfl
                 refine pure_ (i := 8) (N := some 130) (v := ?_) (a' := ?_) #[true, false, true, false, false, true, false, true, true, false, false, false, false, false, false, false, false, false, false, false, false, false, false, false, false, false] rfl rfl (any_of HT_.out (by kernel_rfl)) (fun _ _ _ h => h) (Or.inl ⟨by rfl, ?_⟩) ?_ ?_
                 rotate_left
                 ·
                  intro w'
                  go_simp
                  with_reducible rfl
                 rotate_left
                 ·
                  simp only [Act.put, List.setIfInBounds_toArray, List.set_cons_zero, List.set_cons_succ, i64_w, i32_w]
                  rfl
                 refine pure_ (i := 11) (N := some 133) (v := ?_) (a' := ?_) #[true, false, true, false, false, true, false, true, true, false, false, true, false, false, false, false, false, false, false, false, false, false, false, false, false, false] rfl rfl (any_of HT_.out (by kernel_rfl)) (fun _ _ _ h => h) (Or.inl ⟨by rfl, ?_⟩) ?_ ?_
                 rotate_left
                 ·
                  intro w'
                  go_simp
                  with_reducible rfl
                 rotate_left
                 ·
                  simp only [Act.put, List.setIfInBounds_toArray, List.set_cons_zero, List.set_cons_succ, i64_w, i32_w]
                  rfl
                 refine pure_ (i := 14) (N := some 136) (v := ?_) (a' := ?_) #[true, false, true, false, false, true, false, true, true, false, false, true, false, false, true, false, false, false, false, false, false, false, false, false, false, false] rfl rfl (any_of HT_.out (by kernel_rfl)) (fun _ _ _ h => h) (Or.inl ⟨by rfl, ?_⟩) ?_ ?_
                 rotate_left
                 ·
                  intro w'
                  go_simp
                  with_reducible rfl
                 rotate_left
                 ·
                  simp only [Act.put, List.setIfInBounds_toArray, List.set_cons_zero, List.set_cons_succ, i64_w, i32_w]
                  rfl
                 refine pure_ (i := 18) (N := some 140) (v := ?_) (a' := ?_) #[true, false, true, false, false, true, false, true, true, false, false, true, false, false, true, false, false, false, true, false, false, false, false, false, false, false] rfl rfl (any_of HT_.out (by kernel_rfl)) (fun _ _ _ h => h) (Or.inl ⟨by rfl, ?_⟩) ?_ ?_
                 rotate_left
                 ·
                  intro w'
                  go_simp
                  with_reducible rfl
                 rotate_left
                 ·
                  simp only [Act.put, List.setIfInBounds_toArray, List.set_cons_zero, List.set_cons_succ, i64_w, i32_w]
                  rfl
                 refine pure_ (i := 19) (N := some 141) (v := ?_) (a' := ?_) #[true, false, true, false, false, true, false, true, true, false, false, true, false, false, true, false, false, false, true, true, false, false, false, false, false, false] rfl rfl (any_of HT_.out (by kernel_rfl)) (fun _ _ _ h => h) (Or.inl ⟨by rfl, ?_⟩) ?_ ?_
                 rotate_left
                 ·
                  intro w'
                  go_simp
                  with_reducible rfl
                 rotate_left
                 ·
                  simp only [Act.put, List.setIfInBounds_toArray, List.set_cons_zero, List.set_cons_succ, i64_w, i32_w]
                  rfl
                 refine take_ (i := 1) (N := some 123) (v := ?_) (a' := ?_) #[true, true, true, false, false, true, false, true, true, false, false, true, false, false, true, false, false, false, true, true, false, false, false, false, false, false] rfl rfl (take_ofW HT_.out HW_.out (by kernel_rfl)) (fun _ _ _ h => h) (Or.inl ⟨by rfl, ?_⟩) hHeld ?_ ?_
                 rotate_left
                 ·
                  rintro w' ⟨s0, s1, s2, s3, s4, s5, s6, s7, s8, s9, s10, s11, s12, s13, s14, s15, s16, s17⟩
                  go_simp
                  with_reducible rfl
                 rotate_left
                 ·
                  simp only [Act.put, List.setIfInBounds_toArray, List.set_cons_zero, List.set_cons_succ, i64_w, i32_w]
                  rfl
                 refine pure_ (i := 3) (N := some 125) (v := ?_) (a' := ?_) #[true, true, true, true, false, true, false, true, true, false, false, true, false, false, true, false, false, false, true, true, false, false, false, false, false, false] rfl rfl (any_of HT_.out (by kernel_rfl)) (fun _ _ _ h => h) (Or.inl ⟨by rfl, ?_⟩) ?_ ?_
                 rotate_left
                 ·
                  intro w'
                  go_simp
                  with_reducible rfl
                 rotate_left
                 ·
                  simp only [Act.put, List.setIfInBounds_toArray, List.set_cons_zero, List.set_cons_succ, i64_w, i32_w]
                  rfl
                 refine take_ (i := 4) (N := some 126) (v := ?_) (a' := ?_) #[true, true, true, true, true, true, false, true, true, false, false, true, false, false, true, false, false, false, true, true, false, false, false, false, false, false] rfl rfl (take_ofW HT_.out HW_.out (by kernel_rfl)) (fun _ _ _ h => h) (Or.inl ⟨by rfl, ?_⟩) hHeld ?_ ?_
                 rotate_left
                 ·
                  rintro w' ⟨s0, s1, s2, s3, s4, s5, s6, s7, s8, s9, s10, s11, s12, s13, s14, s15, s16, s17⟩
                  go_simp
                  with_reducible rfl
                 rotate_left
                 ·
                  simp only [Act.put, List.setIfInBounds_toArray, List.set_cons_zero, List.set_cons_succ, i64_w, i32_w]
                  rfl
                 refine take_ (i := 6) (N := some 128) (v := ?_) (a' := ?_) #[true, true, true, true, true, true, true, true, true, false, false, true, false, false, true, false, false, false, true, true, false, false, false, false, false, false] rfl rfl (take_ofW HT_.out HW_.out (by kernel_rfl)) (fun _ _ _ h => h) (Or.inl ⟨by rfl, ?_⟩) hHeld ?_ ?_
                 rotate_left
                 ·
                  rintro w' ⟨s0, s1, s2, s3, s4, s5, s6, s7, s8, s9, s10, s11, s12, s13, s14, s15, s16, s17⟩
                  go_simp
                  with_reducible rfl
                 rotate_left
                 ·
                  simp only [Act.put, List.setIfInBounds_toArray, List.set_cons_zero, List.set_cons_succ, i64_w, i32_w]
                  rfl
                 refine take_ (i := 9) (N := some 131) (v := ?_) (a' := ?_) #[true, true, true, true, true, true, true, true, true, true, false, true, false, false, true, false, false, false, true, true, false, false, false, false, false, false] rfl rfl (take_ofW HT_.out HW_.out (by kernel_rfl)) (fun _ _ _ h => h) (Or.inl ⟨by rfl, ?_⟩) hHeld ?_ ?_
                 rotate_left
                 ·
                  rintro w' ⟨s0, s1, s2, s3, s4, s5, s6, s7, s8, s9, s10, s11, s12, s13, s14, s15, s16, s17⟩
                  go_simp
                  with_reducible rfl
                 rotate_left
                 ·
                  simp only [Act.put, List.setIfInBounds_toArray, List.set_cons_zero, List.set_cons_succ, i64_w, i32_w]
                  rfl
                 refine pure_ (i := 10) (N := some 132) (v := ?_) (a' := ?_) #[true, true, true, true, true, true, true, true, true, true, true, true, false, false, true, false, false, false, true, true, false, false, false, false, false, false] rfl rfl (any_of HT_.out (by kernel_rfl)) (fun _ _ _ h => h) (Or.inl ⟨by rfl, ?_⟩) ?_ ?_
                 rotate_left
                 ·
                  intro w'
                  go_simp
                  with_reducible rfl
                 rotate_left
                 ·
                  simp only [Act.put, List.setIfInBounds_toArray, List.set_cons_zero, List.set_cons_succ, i64_w, i32_w]
                  rfl
                 refine take_ (i := 12) (N := some 134) (v := ?_) (a' := ?_) #[true, true, true, true, true, true, true, true, true, true, true, true, true, false, true, false, false, false, true, true, false, false, false, false, false, false] rfl rfl (take_ofW HT_.out HW_.out (by kernel_rfl)) (fun _ _ _ h => h) (Or.inl ⟨by rfl, ?_⟩) hHeld ?_ ?_
                 rotate_left
                 ·
                  rintro w' ⟨s0, s1, s2, s3, s4, s5, s6, s7, s8, s9, s10, s11, s12, s13, s14, s15, s16, s17⟩
                  go_simp
                  with_reducible rfl
                 rotate_left
                 ·
                  simp only [Act.put, List.setIfInBounds_toArray, List.set_cons_zero, List.set_cons_succ, i64_w, i32_w]
                  rfl
                 refine pure_ (i := 13) (N := some 135) (v := ?_) (a' := ?_) #[true, true, true, true, true, true, true, true, true, true, true, true, true, true, true, false, false, false, true, true, false, false, false, false, false, false] rfl rfl (any_of HT_.out (by kernel_rfl)) (fun _ _ _ h => h) (Or.inl ⟨by rfl, ?_⟩) ?_ ?_
                 rotate_left
                 ·
                  intro w'
                  go_simp
                  with_reducible rfl
                 rotate_left
                 ·
                  simp only [Act.put, List.setIfInBounds_toArray, List.set_cons_zero, List.set_cons_succ, i64_w, i32_w]
                  rfl
                 refine take_ (i := 15) (N := some 137) (v := ?_) (a' := ?_) #[true, true, true, true, true, true, true, true, true, true, true, true, true, true, true, true, false, false, true, true, false, false, false, false, false, false] rfl rfl (take_ofW HT_.out HW_.out (by kernel_rfl)) (fun _ _ _ h => h) (Or.inl ⟨by rfl, ?_⟩) hHeld ?_ ?_
                 rotate_left
                 ·
                  rintro w' ⟨s0, s1, s2, s3, s4, s5, s6, s7, s8, s9, s10, s11, s12, s13, s14, s15, s16, s17⟩
                  go_simp
                  with_reducible rfl
                 rotate_left
                 ·
                  simp only [Act.put, List.setIfInBounds_toArray, List.set_cons_zero, List.set_cons_succ, i64_w, i32_w]
                  rfl
                 refine pure_ (i := 16) (N := some 138) (v := ?_) (a' := ?_) #[true, true, true, true, true, true, true, true, true, true, true, true, true, true, true, true, true, false, true, true, false, false, false, false, false, false] rfl rfl (any_of HT_.out (by kernel_rfl)) (fun _ _ _ h => h) (Or.inl ⟨by rfl, ?_⟩) ?_ ?_
                 rotate_left
                 ·
                  intro w'
                  go_simp
                  with_reducible rfl
                 rotate_left
                 ·
                  simp only [Act.put, List.setIfInBounds_toArray, List.set_cons_zero, List.set_cons_succ, i64_w, i32_w]
                  rfl
                 refine pure_ (i := 17) (N := some 139) (v := ?_) (a' := ?_) #[true, true, true, true, true, true, true, true, true, true, true, true, true, true, true, true, true, true, true, true, false, false, false, false, false, false] rfl rfl (any_of HT_.out (by kernel_rfl)) (fun _ _ _ h => h) (Or.inl ⟨by rfl, ?_⟩) ?_ ?_
                 rotate_left
                 ·
                  intro w'
                  go_simp
                  with_reducible rfl
                 rotate_left
                 ·
                  simp only [Act.put, List.setIfInBounds_toArray, List.set_cons_zero, List.set_cons_succ, i64_w, i32_w]
                  rfl
                 refine take_ (i := 20) (N := some 142) (v := ?_) (a' := ?_) #[true, true, true, true, true, true, true, true, true, true, true, true, true, true, true, true, true, true, true, true, true, false, false, false, false, false] rfl rfl (take_ofW HT_.out HW_.out (by kernel_rfl)) (fun _ _ _ h => h) (Or.inl ⟨by rfl, ?_⟩) hHeld ?_ ?_
                 rotate_left
                 ·
                  rintro w' ⟨s0, s1, s2, s3, s4, s5, s6, s7, s8, s9, s10, s11, s12, s13, s14, s15, s16, s17⟩
                  go_simp
                  with_reducible rfl
                 rotate_left
                 ·
                  simp only [Act.put, List.setIfInBounds_toArray, List.set_cons_zero, List.set_cons_succ, i64_w, i32_w]
                  rfl
                 refine pure_ (i := 21) (N := some 143) (v := ?_) (a' := ?_) #[true, true, true, true, true, true, true, true, true, true, true, true, true, true, true, true, true, true, true, true, true, true, false, false, false, false] rfl rfl (any_of HT_.out (by kernel_rfl)) (fun _ _ _ h => h) (Or.inl ⟨by rfl, ?_⟩) ?_ ?_
                 rotate_left
                 ·
                  intro w'
                  go_simp
                  with_reducible rfl
                 rotate_left
                 ·
                  simp only [Act.put, List.setIfInBounds_toArray, List.set_cons_zero, List.set_cons_succ, i64_w, i32_w]
                  rfl
                 refine pure_ (i := 22) (N := some 144) (v := ?_) (a' := ?_) #[true, true, true, true, true, true, true, true, true, true, true, true, true, true, true, true, true, true, true, true, true, true, true, false, false, false] rfl rfl (any_of HT_.out (by kernel_rfl)) (fun _ _ _ h => h) (Or.inl ⟨by rfl, ?_⟩) ?_ ?_
                 rotate_left
                 ·
                  intro w'
                  go_simp
                  with_reducible rfl
                 rotate_left
                 ·
                  simp only [Act.put, List.setIfInBounds_toArray, List.set_cons_zero, List.set_cons_succ, i64_w, i32_w]
                  rfl
                 refine pure_ (i := 23) (N := some 145) (v := ?_) (a' := ?_) #[true, true, true, true, true, true, true, true, true, true, true, true, true, true, true, true, true, true, true, true, true, true, true, true, false, false] rfl rfl (any_of HT_.out (by kernel_rfl)) (fun _ _ _ h => h) (Or.inl ⟨by rfl, ?_⟩) ?_ ?_
                 rotate_left
                 ·
                  intro w'
                  go_simp
                  with_reducible rfl
                 rotate_left
                 ·
                  simp only [Act.put, List.setIfInBounds_toArray, List.set_cons_zero, List.set_cons_succ, i64_w, i32_w]
                  rfl
                 refine take_ (i := 24) (N := some 146) (v := ?_) (a' := ?_) #[true, true, true, true, true, true, true, true, true, true, true, true, true, true, true, true, true, true, true, true, true, true, true, true, true, false] rfl rfl (take_ofW HT_.out HW_.out (by kernel_rfl)) (fun _ _ _ h => h) (Or.inl ⟨by rfl, ?_⟩) hHeld ?_ ?_
                 rotate_left
                 ·
                  rintro w' ⟨s0, s1, s2, s3, s4, s5, s6, s7, s8, s9, s10, s11, s12, s13, s14, s15, s16, s17⟩
                  go_simp
                  with_reducible rfl
                 rotate_left
                 ·
                  simp only [Act.put, List.setIfInBounds_toArray, List.set_cons_zero, List.set_cons_succ, i64_w, i32_w]
                  rfl
                 refine pure_ (i := 25) (N := some 147) (v := ?_) (a' := ?_) #[true, true, true, true, true, true, true, true, true, true, true, true, true, true, true, true, true, true, true, true, true, true, true, true, true, true] rfl rfl (any_of HT_.out (by kernel_rfl)) (fun _ _ _ h => h) (Or.inl ⟨by rfl, ?_⟩) ?_ ?_
                 rotate_left
                 ·
                  intro w'
                  go_simp
                  with_reducible rfl
                 rotate_left
                 ·
                  simp only [Act.put, List.setIfInBounds_toArray, List.set_cons_zero, List.set_cons_succ, i64_w, i32_w]
                  rfl
                 refine done_ (done_of HT_.out (by kernel_rfl)) ?_
                 try go_wp2
                 go_ret
                 exact ⟨by first | rfl | (simp [errW_none, errW_some] <;> rfl) | (simp only [← hji99]; first | rfl | (simp [errW_none, errW_some] <;> rfl)) | (simp [*, errW_none, errW_some] <;> rfl), by repeat (first | (with_reducible first | exact HB.out | apply below_alloc | apply pw_below_drewN | apply below_drew1 | refine below_set ?_ GE253.out | refine below_set ?_ GE254.out | refine below_set ?_ GE268.out | refine below_set ?_ GE281.out | refine below_set ?_ GE296.out) | exact HB.out)⟩
               ·
                rw [if_neg c101] at H
                exact absurd H (by simp)
              ·
               rw [if_neg c100] at H
               exact absurd H (by simp)
            ·
             rw [if_neg c97] at H
             exact absurd H (by simp)
           ·
            rw [if_neg c96] at H
            have c96b0 : decide (x11_3 < (x269002_1.length : Int)) = false := decide_eq_false c96
            clear c96
            replace H := Option.bind_eq_some_iff.mp H
            obtain ⟨t299, A1170, H⟩ := H
            replace H : (some t299) = some r := H
            have A117 := Aside0.mk A1170
            clear A1170
            obtain rfl := Option.some.inj H
            have hnb118 := NB268_253.out
            have hnc118 := NB253_268.out
            have hnb119 := NB268_254.out
            have hnc119 := NB254_268.out
            have hnb120 := NB268_281.out
            have hnc120 := NB281_268.out
            have hnb121 := NB268_296.out
            have hnc121 := NB296_268.out
            have hcz122_0 : wr.cell? ⟨gb268, 0, none⟩ = some (.int .i64 t256) := (blk_cell BK268.out 0).trans rfl
            have hcz122_1 : wr.cell? ⟨gb268, 1, none⟩ = some (.int .i64 t257) := (blk_cell BK268.out 1).trans rfl
            have hcz122_2 : wr.cell? ⟨gb268, 2, none⟩ = some (u269002) := (blk_cell BK268.out 2).trans rfl
            have hcz122_3 : wr.cell? ⟨gb268, 3, none⟩ = some (u269003) := (blk_cell BK268.out 3).trans rfl
            have hcz122_4 : wr.cell? ⟨gb268, 4, none⟩ = some (u269004) := (blk_cell BK268.out 4).trans rfl
            have hfz122_0 := blk_frozen BK268.out 0
            have hfz122_1 := blk_frozen BK268.out 1
            have hfz122_2 := blk_frozen BK268.out 2
            have hfz122_3 := blk_frozen BK268.out 3
            have hfz122_4 := blk_frozen BK268.out 4
            obtain ⟨Ao123, co123, eo123⟩ := Kd.R_slice HO_269002.out
            subst eo123
            go_wp2_with (first | ((with_reducible refine gate_callee (f := 13) rfl ?_); refine goesL_ (some 148) rfl rfl Try.func13 (by kernel_rfl) rfl #[] rfl (by (try simp only [List.map_toArray, List.map_cons, List.map_nil]); first | done | rfl | (simp only [List.length_drop, List.length_take]; rfl)) ?_; (with_reducible refine (cutroomlaw08_awake.calls k3  t299 _ A117.out).mono ?_); rintro e w124 ⟨rfl, hb⟩; refine ⟨_, rfl, ?_⟩; have n0_ := Aside0.mk (Kd.R_below (by (with_reducible repeat (first | apply Kd.R_alloc | apply Kd.R_drewN | apply Kd.R_drew)); exact HO_269002.out) hb); have n1_ := Aside0.mk (Kd.R_below (by (with_reducible repeat (first | apply Kd.R_alloc | apply Kd.R_drewN | apply Kd.R_drew)); exact HO_269003.out) hb); have n2_ := Aside0.mk (Kd.R_below (by (with_reducible repeat (first | apply Kd.R_alloc | apply Kd.R_drewN | apply Kd.R_drew)); exact HO_269004.out) hb); have n3_ := Aside0.mk (Kd.R_below (by (with_reducible repeat (first | apply Kd.R_alloc | apply Kd.R_drewN | apply Kd.R_drew)); exact HO_282002.out) hb); have n4_ := Aside0.mk (Kd.R_below (by (with_reducible repeat (first | apply Kd.R_alloc | apply Kd.R_drewN | apply Kd.R_drew)); exact HO_282003.out) hb); have n5_ := Aside0.mk (Kd.R_below (by (with_reducible repeat (first | apply Kd.R_alloc | apply Kd.R_drewN | apply Kd.R_drew)); exact HO_282004.out) hb); have n6_ := Aside0.mk (Kd.R_below (by (with_reducible repeat (first | apply Kd.R_alloc | apply Kd.R_drewN | apply Kd.R_drew)); exact HO_297002.out) hb); have n7_ := Aside0.mk (Kd.R_below (by (with_reducible repeat (first | apply Kd.R_alloc | apply Kd.R_drewN | apply Kd.R_drew)); exact HO_297003.out) hb); have n8_ := Aside0.mk (Kd.R_below (by (with_reducible repeat (first | apply Kd.R_alloc | apply Kd.R_drewN | apply Kd.R_drew)); exact HO_297004.out) hb); have n9_ := Aside0.mk (blk_below (g := gb253) (o := .cells #[.int .i64 a0_0, .int .i64 a0_1, .slice A0_2 l0_2.length c0_2, .slice A0_3 l0_3.length c0_3, .slice A0_4 l0_4.length c0_4] 24 (0, 0)) (by (with_reducible repeat (first | refine blk_drewN ?_ _ | refine blk_drew ?_ | refine blk_alloc ?_ _)); exact BK253.out) hb); have n10_ := Aside0.mk (blk_below (g := gb254) (o := .cells #[.int .i64 a1_0, .int .i64 a1_1, .int .i64 a1_2, .int .i64 a1_3, .int .i64 a1_4, .int .i64 a1_5] 34 (0, 0)) (by (with_reducible repeat (first | refine blk_drewN ?_ _ | refine blk_drew ?_ | refine blk_alloc ?_ _)); exact BK254.out) hb); have n11_ := Aside0.mk (blk_below (g := gb268) (o := .cells #[.int .i64 t256, .int .i64 t257, .slice Ao123 x269002_1.length co123, u269003, u269004] 24 (0, 0)) (by (with_reducible repeat (first | refine blk_drewN ?_ _ | refine blk_drew ?_ | refine blk_alloc ?_ _)); exact BK268.out) hb); have n12_ := Aside0.mk (blk_below (g := gb281) (o := .cells #[.int .i64 t270, .int .i64 t271, .slice Ao57 x282002_1.length co57, .slice Ao58 x282003_1.length co58, .slice Ao59 x282004_1.length co59] 24 (0, 0)) (by (with_reducible repeat (first | refine blk_drewN ?_ _ | refine blk_drew ?_ | refine blk_alloc ?_ _)); exact BK281.out) hb); have n13_ := Aside0.mk (blk_below (g := gb296) (o := .cells #[.int .i64 t284, .int .i64 t285, .slice Ao67 t286.length co67, .slice Ao68 t289.length co68, .slice Ao69 t292.length co69] 24 (0, 0)) (by (with_reducible repeat (first | refine blk_drewN ?_ _ | refine blk_drew ?_ | refine blk_alloc ?_ _)); exact BK296.out) hb); have n14_ := Aside0.mk (below_step (by repeat (first | (with_reducible first | exact HB.out | apply below_alloc | apply pw_below_drewN | apply below_drew1 | refine below_set ?_ GE253.out | refine below_set ?_ GE254.out | refine below_set ?_ GE268.out | refine below_set ?_ GE281.out | refine below_set ?_ GE296.out) | exact HB.out)) hb); clear HO_269002; clear HO_269003; clear HO_269004; clear HO_282002; clear HO_282003; clear HO_282004; clear HO_297002; clear HO_297003; clear HO_297004; clear BK253; clear BK254; clear BK268; clear BK281; clear BK296; clear HB; have HO_269002 := n0_; have HO_269003 := n1_; have HO_269004 := n2_; have HO_282002 := n3_; have HO_282003 := n4_; have HO_282004 := n5_; have HO_297002 := n6_; have HO_297003 := n7_; have HO_297004 := n8_; have BK253 := n9_; have BK254 := n10_; have BK268 := n11_; have BK281 := n12_; have BK296 := n13_; have HB := n14_; clear n0_ n1_ n2_ n3_ n4_ n5_ n6_ n7_ n8_ n9_ n10_ n11_ n12_ n13_ n14_; (try clear hb); (try clear hb2); (try clear hk); (try clear hi)))
            go_ret
            exact ⟨by first | rfl | (simp [errW_none, errW_some] <;> rfl) | (simp [*, errW_none, errW_some] <;> rfl), by repeat (first | (with_reducible first | exact HB.out | apply below_alloc | apply pw_below_drewN | apply below_drew1 | refine below_set ?_ GE253.out | refine below_set ?_ GE254.out | refine below_set ?_ GE268.out | refine below_set ?_ GE281.out | refine below_set ?_ GE296.out) | exact HB.out)⟩
  ·
   rw [if_neg c6] at H
   have c6b0 : (t267 == 0) = false := beq_eq_false_iff_ne.mpr c6
   have c6b1 : (t267 != 0) = true := bne_iff_ne.mpr c6
   replace H := Option.bind_eq_some_iff.mp H
   obtain ⟨t269, A1250, H⟩ := H
   replace H : (some t269) = some r := H
   have A125 := Aside0.mk A1250
   clear A1250
   obtain rfl := Option.some.inj H
   go_enter Try.func7, Try.ntmps7
   go_wp2_with (first | ((with_reducible refine gate_dst (N := 2) rfl ?_); (try (refine gate_guard (by rfl) ?_; dsimp only)); refine box_event ?hg (N := 2) ?hd (cs := #[.int .i64 a0_0, .int .i64 a0_1, .slice A0_2 l0_2.length c0_2, .slice A0_3 l0_3.length c0_3, .slice A0_4 l0_4.length c0_4]) (t := 24) ?hr ?_; (case hd => rfl); (case hg => rfl); (case hr => first | (go_simp; done) | (go_simp; rfl)); intro gb253 hg w126 hbox hb; have n0_ := Aside0.mk (below_step (by repeat (first | (with_reducible first | exact HB.out | apply below_alloc | apply pw_below_drewN | apply below_drew1) | exact HB.out)) hb); have n1_ := Aside0.mk (hbox); have n2_ := Aside0.mk ((by rw [hg]; exact (below_size (by repeat (first | (with_reducible first | exact HB.out | apply below_alloc | apply pw_below_drewN | apply below_drew1) | exact HB.out))) : w.heap.size ≤ gb253)); have n3_ := Aside0.mk ((by rw [hg]; exact (below_size (by repeat (first | (with_reducible first | exact HB.out | apply below_alloc | apply pw_below_drewN | apply below_drew1) | exact HB.out))) : w.heap.size ≤ gb253)); clear HB; have HB := n0_; have BK253 := n1_; have GW253 := n2_; have GE253 := n3_; clear n0_ n1_ n2_ n3_; clear hb hbox hg) | ((with_reducible refine gate_dst (N := 3) rfl ?_); (try (refine gate_guard (by rfl) ?_; dsimp only)); refine box_event ?hg (N := 3) ?hd (cs := #[.int .i64 a1_0, .int .i64 a1_1, .int .i64 a1_2, .int .i64 a1_3, .int .i64 a1_4, .int .i64 a1_5]) (t := 34) ?hr ?_; (case hd => rfl); (case hg => rfl); (case hr => first | (go_simp; done) | (go_simp; rfl)); intro gb254 hg w127 hbox hb; have n0_ := Aside0.mk (blk_below (g := gb253) (o := .cells #[.int .i64 a0_0, .int .i64 a0_1, .slice A0_2 l0_2.length c0_2, .slice A0_3 l0_3.length c0_3, .slice A0_4 l0_4.length c0_4] 24 (0, 0)) (by (with_reducible repeat (first | refine blk_drewN ?_ _ | refine blk_drew ?_ | refine blk_alloc ?_ _)); exact BK253.out) hb); have n1_ := Aside0.mk (below_step (by repeat (first | (with_reducible first | exact HB.out | apply below_alloc | apply pw_below_drewN | apply below_drew1 | refine below_set ?_ GE253.out) | exact HB.out)) hb); have n2_ := Aside0.mk (hbox); have n3_ := Aside0.mk ((by rw [hg]; exact (below_size (by repeat (first | (with_reducible first | exact HB.out | apply below_alloc | apply pw_below_drewN | apply below_drew1 | refine below_set ?_ GE253.out) | exact HB.out))) : w.heap.size ≤ gb254)); have n4_ := Aside0.mk ((by rw [hg]; exact (below_size (by repeat (first | (with_reducible first | exact HB.out | apply below_alloc | apply pw_below_drewN | apply below_drew1 | refine below_set ?_ GE253.out) | exact HB.out))) : w.heap.size ≤ gb254)); have n5_ := Aside0.mk ((by rw [hg]; exact Nat.ne_of_lt (blk_lt (g := gb253) (o := .cells #[.int .i64 a0_0, .int .i64 a0_1, .slice A0_2 l0_2.length c0_2, .slice A0_3 l0_3.length c0_3, .slice A0_4 l0_4.length c0_4] 24 (0, 0)) (by (with_reducible repeat (first | refine blk_drewN ?_ _ | refine blk_drew ?_ | refine blk_alloc ?_ _)); exact BK253.out)) : gb253 ≠ gb254)); have n6_ := Aside0.mk ((by rw [hg]; exact Nat.ne_of_gt (blk_lt (g := gb253) (o := .cells #[.int .i64 a0_0, .int .i64 a0_1, .slice A0_2 l0_2.length c0_2, .slice A0_3 l0_3.length c0_3, .slice A0_4 l0_4.length c0_4] 24 (0, 0)) (by (with_reducible repeat (first | refine blk_drewN ?_ _ | refine blk_drew ?_ | refine blk_alloc ?_ _)); exact BK253.out)) : gb254 ≠ gb253)); clear BK253; clear HB; have BK253 := n0_; have HB := n1_; have BK254 := n2_; have GW254 := n3_; have GE254 := n4_; have NB253_254 := n5_; have NB254_253 := n6_; clear n0_ n1_ n2_ n3_ n4_ n5_ n6_; clear hb hbox hg; have hnb128 := NB253_254.out; have hnc128 := NB254_253.out; have hcz129_0 : w127.cell? ⟨gb253, 0, none⟩ = some (.int .i64 a0_0) := (blk_cell BK253.out 0).trans rfl; have hcz129_1 : w127.cell? ⟨gb253, 1, none⟩ = some (.int .i64 a0_1) := (blk_cell BK253.out 1).trans rfl; have hcz129_2 : w127.cell? ⟨gb253, 2, none⟩ = some (.slice A0_2 l0_2.length c0_2) := (blk_cell BK253.out 2).trans rfl; have hcz129_3 : w127.cell? ⟨gb253, 3, none⟩ = some (.slice A0_3 l0_3.length c0_3) := (blk_cell BK253.out 3).trans rfl; have hcz129_4 : w127.cell? ⟨gb253, 4, none⟩ = some (.slice A0_4 l0_4.length c0_4) := (blk_cell BK253.out 4).trans rfl; have hfz129_0 := blk_frozen BK253.out 0; have hfz129_1 := blk_frozen BK253.out 1; have hfz129_2 := blk_frozen BK253.out 2; have hfz129_3 := blk_frozen BK253.out 3; have hfz129_4 := blk_frozen BK253.out 4) | ((with_reducible refine gate_callee (f := 10) rfl ?_); refine goesL_ (some 13) rfl rfl Try.func10 (by kernel_rfl) rfl #[.agg #[.int .i64 a0_0, .int .i64 a0_1, .slice A0_2 l0_2.length c0_2, .slice A0_3 l0_3.length c0_3, .slice A0_4 l0_4.length c0_4]] rfl (by (try simp only [List.map_toArray, List.map_cons, List.map_nil]); first | done | rfl | (simp only [List.length_drop, List.length_take]; rfl)) ?_; (with_reducible refine (cutroomlaw08_light.calls a0_0 a0_1 _ _ l0_2 _ _ l0_3 _ _ l0_4 true _ ?side1 ?side2 ?side3 ?side4 ?side5 ?side6 A3.out).mono ?_); (case side1 => repeat (first | exact (Kd.C_below HR0_2.out HB.out) | (with_reducible refine Kd.C_alloc ?_ _) | (with_reducible refine Kd.C_drewN ?_ _) | (with_reducible refine Kd.C_drew ?_))); (case side2 => exact HC0_2.out); (case side3 => repeat (first | exact (Kd.C_below HR0_3.out HB.out) | (with_reducible refine Kd.C_alloc ?_ _) | (with_reducible refine Kd.C_drewN ?_ _) | (with_reducible refine Kd.C_drew ?_))); (case side4 => exact HC0_3.out); (case side5 => repeat (first | exact (Kd.C_below HR0_4.out HB.out) | (with_reducible refine Kd.C_alloc ?_ _) | (with_reducible refine Kd.C_drewN ?_ _) | (with_reducible refine Kd.C_drew ?_))); (case side6 => exact HC0_4.out); rintro e w130 ⟨rfl, hb⟩; refine ⟨_, rfl, ?_⟩; have n0_ := Aside0.mk (blk_below (g := gb253) (o := .cells #[.int .i64 a0_0, .int .i64 a0_1, .slice A0_2 l0_2.length c0_2, .slice A0_3 l0_3.length c0_3, .slice A0_4 l0_4.length c0_4] 24 (0, 0)) (by (with_reducible repeat (first | refine blk_drewN ?_ _ | refine blk_drew ?_ | refine blk_alloc ?_ _)); exact BK253.out) hb); have n1_ := Aside0.mk (blk_below (g := gb254) (o := .cells #[.int .i64 a1_0, .int .i64 a1_1, .int .i64 a1_2, .int .i64 a1_3, .int .i64 a1_4, .int .i64 a1_5] 34 (0, 0)) (by (with_reducible repeat (first | refine blk_drewN ?_ _ | refine blk_drew ?_ | refine blk_alloc ?_ _)); exact BK254.out) hb); have n2_ := Aside0.mk (below_step (by repeat (first | (with_reducible first | exact HB.out | apply below_alloc | apply pw_below_drewN | apply below_drew1 | refine below_set ?_ GE253.out | refine below_set ?_ GE254.out) | exact HB.out)) hb); clear BK253; clear BK254; clear HB; have BK253 := n0_; have BK254 := n1_; have HB := n2_; clear n0_ n1_ n2_; (try clear hb); (try clear hb2); (try clear hk); (try clear hi); have hcz131_0 : w130.cell? ⟨gb253, 0, none⟩ = some (.int .i64 a0_0) := (blk_cell BK253.out 0).trans rfl; have hcz131_1 : w130.cell? ⟨gb253, 1, none⟩ = some (.int .i64 a0_1) := (blk_cell BK253.out 1).trans rfl; have hcz131_2 : w130.cell? ⟨gb253, 2, none⟩ = some (.slice A0_2 l0_2.length c0_2) := (blk_cell BK253.out 2).trans rfl; have hcz131_3 : w130.cell? ⟨gb253, 3, none⟩ = some (.slice A0_3 l0_3.length c0_3) := (blk_cell BK253.out 3).trans rfl; have hcz131_4 : w130.cell? ⟨gb253, 4, none⟩ = some (.slice A0_4 l0_4.length c0_4) := (blk_cell BK253.out 4).trans rfl; have hfz131_0 := blk_frozen BK253.out 0; have hfz131_1 := blk_frozen BK253.out 1; have hfz131_2 := blk_frozen BK253.out 2; have hfz131_3 := blk_frozen BK253.out 3; have hfz131_4 := blk_frozen BK253.out 4; have hcz132_0 : w130.cell? ⟨gb254, 0, none⟩ = some (.int .i64 a1_0) := (blk_cell BK254.out 0).trans rfl; have hcz132_1 : w130.cell? ⟨gb254, 1, none⟩ = some (.int .i64 a1_1) := (blk_cell BK254.out 1).trans rfl; have hcz132_2 : w130.cell? ⟨gb254, 2, none⟩ = some (.int .i64 a1_2) := (blk_cell BK254.out 2).trans rfl; have hcz132_3 : w130.cell? ⟨gb254, 3, none⟩ = some (.int .i64 a1_3) := (blk_cell BK254.out 3).trans rfl; have hcz132_4 : w130.cell? ⟨gb254, 4, none⟩ = some (.int .i64 a1_4) := (blk_cell BK254.out 4).trans rfl; have hcz132_5 : w130.cell? ⟨gb254, 5, none⟩ = some (.int .i64 a1_5) := (blk_cell BK254.out 5).trans rfl; have hfz132_0 := blk_frozen BK254.out 0; have hfz132_1 := blk_frozen BK254.out 1; have hfz132_2 := blk_frozen BK254.out 2; have hfz132_3 := blk_frozen BK254.out 3; have hfz132_4 := blk_frozen BK254.out 4; have hfz132_5 := blk_frozen BK254.out 5) | ((with_reducible refine gate_callee (f := 15) rfl ?_); refine goesL_ (some 27) rfl rfl Try.func15 (by kernel_rfl) rfl #[.agg #[.int .i64 a0_0, .int .i64 a0_1, .slice A0_2 l0_2.length c0_2, .slice A0_3 l0_3.length c0_3, .slice A0_4 l0_4.length c0_4], .int .i64 a1_0, .int .i64 a1_1, .int .i64 a1_2, .int .i64 a1_3, .agg #[.int .i64 a1_4, .int .i64 a1_5]] rfl (by (try simp only [List.map_toArray, List.map_cons, List.map_nil]); first | done | rfl | (simp only [List.length_drop, List.length_take]; rfl)) ?_; (with_reducible refine (motion_Predict.calls k a0_0 a0_1 _ _ l0_2 _ _ l0_3 _ _ l0_4 a1_0 a1_1 a1_2 a1_3 a1_4 a1_5 t256 t257 t258 t261 t264 t267 _ ?side1 ?side2 ?side3 ?side4 ?side5 ?side6 A5.out).mono ?_); (case side1 => repeat (first | exact (Kd.C_below HR0_2.out HB.out) | (with_reducible refine Kd.C_alloc ?_ _) | (with_reducible refine Kd.C_drewN ?_ _) | (with_reducible refine Kd.C_drew ?_))); (case side2 => exact HC0_2.out); (case side3 => repeat (first | exact (Kd.C_below HR0_3.out HB.out) | (with_reducible refine Kd.C_alloc ?_ _) | (with_reducible refine Kd.C_drewN ?_ _) | (with_reducible refine Kd.C_drew ?_))); (case side4 => exact HC0_3.out); (case side5 => repeat (first | exact (Kd.C_below HR0_4.out HB.out) | (with_reducible refine Kd.C_alloc ?_ _) | (with_reducible refine Kd.C_drewN ?_ _) | (with_reducible refine Kd.C_drew ?_))); (case side6 => exact HC0_4.out); rintro e w133 ⟨v259, v262, v265, rfl, ho0, ho1, ho2, hb⟩; refine ⟨_, rfl, ?_⟩; have n0_ := Aside0.mk (Kd.R_lower ho0 (below_size (by repeat (first | (with_reducible first | exact HB.out | apply below_alloc | apply pw_below_drewN | apply below_drew1 | refine below_set ?_ GE253.out | refine below_set ?_ GE254.out) | exact HB.out)))); have n1_ := Aside0.mk (Kd.R_lower ho1 (below_size (by repeat (first | (with_reducible first | exact HB.out | apply below_alloc | apply pw_below_drewN | apply below_drew1 | refine below_set ?_ GE253.out | refine below_set ?_ GE254.out) | exact HB.out)))); have n2_ := Aside0.mk (Kd.R_lower ho2 (below_size (by repeat (first | (with_reducible first | exact HB.out | apply below_alloc | apply pw_below_drewN | apply below_drew1 | refine below_set ?_ GE253.out | refine below_set ?_ GE254.out) | exact HB.out)))); have n3_ := Aside0.mk (blk_below (g := gb253) (o := .cells #[.int .i64 a0_0, .int .i64 a0_1, .slice A0_2 l0_2.length c0_2, .slice A0_3 l0_3.length c0_3, .slice A0_4 l0_4.length c0_4] 24 (0, 0)) (by (with_reducible repeat (first | refine blk_drewN ?_ _ | refine blk_drew ?_ | refine blk_alloc ?_ _)); exact BK253.out) hb); have n4_ := Aside0.mk (blk_below (g := gb254) (o := .cells #[.int .i64 a1_0, .int .i64 a1_1, .int .i64 a1_2, .int .i64 a1_3, .int .i64 a1_4, .int .i64 a1_5] 34 (0, 0)) (by (with_reducible repeat (first | refine blk_drewN ?_ _ | refine blk_drew ?_ | refine blk_alloc ?_ _)); exact BK254.out) hb); have n5_ := Aside0.mk (below_step (by repeat (first | (with_reducible first | exact HB.out | apply below_alloc | apply pw_below_drewN | apply below_drew1 | refine below_set ?_ GE253.out | refine below_set ?_ GE254.out) | exact HB.out)) hb); clear BK253; clear BK254; clear HB; have HO260 := n0_; have HO263 := n1_; have HO266 := n2_; have BK253 := n3_; have BK254 := n4_; have HB := n5_; clear n0_ n1_ n2_ n3_ n4_ n5_; (try clear hb); (try clear hb2); (try clear hk); (try clear hi); (try clear ho0); (try clear ho1); (try clear ho2)) | ((with_reducible refine gate_dst (N := 5) rfl ?_); (try (refine gate_guard (by rfl) ?_; dsimp only)); refine box_event ?hg (N := 5) ?hd (cs := #[.int .i64 0, .int .i64 0, .slice none 0 0, .slice none 0 0, .slice none 0 0]) (t := 24) ?hr ?_; (case hd => rfl); (case hg => rfl); (case hr => first | (go_simp; done) | (go_simp; rfl)); intro gb268 hg w134 hbox hb; have n0_ := Aside0.mk (Kd.R_below (by (with_reducible repeat (first | apply Kd.R_alloc | apply Kd.R_drewN | apply Kd.R_drew)); exact HO260.out) hb); have n1_ := Aside0.mk (Kd.R_below (by (with_reducible repeat (first | apply Kd.R_alloc | apply Kd.R_drewN | apply Kd.R_drew)); exact HO263.out) hb); have n2_ := Aside0.mk (Kd.R_below (by (with_reducible repeat (first | apply Kd.R_alloc | apply Kd.R_drewN | apply Kd.R_drew)); exact HO266.out) hb); have n3_ := Aside0.mk (blk_below (g := gb253) (o := .cells #[.int .i64 a0_0, .int .i64 a0_1, .slice A0_2 l0_2.length c0_2, .slice A0_3 l0_3.length c0_3, .slice A0_4 l0_4.length c0_4] 24 (0, 0)) (by (with_reducible repeat (first | refine blk_drewN ?_ _ | refine blk_drew ?_ | refine blk_alloc ?_ _)); exact BK253.out) hb); have n4_ := Aside0.mk (blk_below (g := gb254) (o := .cells #[.int .i64 a1_0, .int .i64 a1_1, .int .i64 a1_2, .int .i64 a1_3, .int .i64 a1_4, .int .i64 a1_5] 34 (0, 0)) (by (with_reducible repeat (first | refine blk_drewN ?_ _ | refine blk_drew ?_ | refine blk_alloc ?_ _)); exact BK254.out) hb); have n5_ := Aside0.mk (below_step (by repeat (first | (with_reducible first | exact HB.out | apply below_alloc | apply pw_below_drewN | apply below_drew1 | refine below_set ?_ GE253.out | refine below_set ?_ GE254.out) | exact HB.out)) hb); have n6_ := Aside0.mk (hbox); have n7_ := Aside0.mk ((by rw [hg]; exact (below_size (by repeat (first | (with_reducible first | exact HB.out | apply below_alloc | apply pw_below_drewN | apply below_drew1 | refine below_set ?_ GE253.out | refine below_set ?_ GE254.out) | exact HB.out))) : w.heap.size ≤ gb268)); have n8_ := Aside0.mk ((by rw [hg]; exact (below_size (by repeat (first | (with_reducible first | exact HB.out | apply below_alloc | apply pw_below_drewN | apply below_drew1 | refine below_set ?_ GE253.out | refine below_set ?_ GE254.out) | exact HB.out))) : w.heap.size ≤ gb268)); have n9_ := Aside0.mk ((by rw [hg]; exact Nat.ne_of_lt (blk_lt (g := gb253) (o := .cells #[.int .i64 a0_0, .int .i64 a0_1, .slice A0_2 l0_2.length c0_2, .slice A0_3 l0_3.length c0_3, .slice A0_4 l0_4.length c0_4] 24 (0, 0)) (by (with_reducible repeat (first | refine blk_drewN ?_ _ | refine blk_drew ?_ | refine blk_alloc ?_ _)); exact BK253.out)) : gb253 ≠ gb268)); have n10_ := Aside0.mk ((by rw [hg]; exact Nat.ne_of_gt (blk_lt (g := gb253) (o := .cells #[.int .i64 a0_0, .int .i64 a0_1, .slice A0_2 l0_2.length c0_2, .slice A0_3 l0_3.length c0_3, .slice A0_4 l0_4.length c0_4] 24 (0, 0)) (by (with_reducible repeat (first | refine blk_drewN ?_ _ | refine blk_drew ?_ | refine blk_alloc ?_ _)); exact BK253.out)) : gb268 ≠ gb253)); have n11_ := Aside0.mk ((by rw [hg]; exact Nat.ne_of_lt (blk_lt (g := gb254) (o := .cells #[.int .i64 a1_0, .int .i64 a1_1, .int .i64 a1_2, .int .i64 a1_3, .int .i64 a1_4, .int .i64 a1_5] 34 (0, 0)) (by (with_reducible repeat (first | refine blk_drewN ?_ _ | refine blk_drew ?_ | refine blk_alloc ?_ _)); exact BK254.out)) : gb254 ≠ gb268)); have n12_ := Aside0.mk ((by rw [hg]; exact Nat.ne_of_gt (blk_lt (g := gb254) (o := .cells #[.int .i64 a1_0, .int .i64 a1_1, .int .i64 a1_2, .int .i64 a1_3, .int .i64 a1_4, .int .i64 a1_5] 34 (0, 0)) (by (with_reducible repeat (first | refine blk_drewN ?_ _ | refine blk_drew ?_ | refine blk_alloc ?_ _)); exact BK254.out)) : gb268 ≠ gb254)); clear HO260; clear HO263; clear HO266; clear BK253; clear BK254; clear HB; have HO260 := n0_; have HO263 := n1_; have HO266 := n2_; have BK253 := n3_; have BK254 := n4_; have HB := n5_; have BK268 := n6_; have GW268 := n7_; have GE268 := n8_; have NB253_268 := n9_; have NB268_253 := n10_; have NB254_268 := n11_; have NB268_254 := n12_; clear n0_ n1_ n2_ n3_ n4_ n5_ n6_ n7_ n8_ n9_ n10_ n11_ n12_; clear hb hbox hg; have hnb135 := NB268_253.out; have hnc135 := NB253_268.out; have hnb136 := NB268_254.out; have hnc136 := NB254_268.out; have hcz137_0 : w134.cell? ⟨gb268, 0, none⟩ = some (.int .i64 0) := (blk_cell BK268.out 0).trans rfl; have hcz137_1 : w134.cell? ⟨gb268, 1, none⟩ = some (.int .i64 0) := (blk_cell BK268.out 1).trans rfl; have hcz137_2 : w134.cell? ⟨gb268, 2, none⟩ = some (.slice none 0 0) := (blk_cell BK268.out 2).trans rfl; have hcz137_3 : w134.cell? ⟨gb268, 3, none⟩ = some (.slice none 0 0) := (blk_cell BK268.out 3).trans rfl; have hcz137_4 : w134.cell? ⟨gb268, 4, none⟩ = some (.slice none 0 0) := (blk_cell BK268.out 4).trans rfl; have hfz137_0 := blk_frozen BK268.out 0; have hfz137_1 := blk_frozen BK268.out 1; have hfz137_2 := blk_frozen BK268.out 2; have hfz137_3 := blk_frozen BK268.out 3; have hfz137_4 := blk_frozen BK268.out 4; obtain ⟨Ao138, co138, eo138⟩ := Kd.R_slice HO260.out; subst eo138; obtain ⟨Ao139, co139, eo139⟩ := Kd.R_slice HO263.out; subst eo139; obtain ⟨Ao140, co140, eo140⟩ := Kd.R_slice HO266.out; subst eo140) | ((with_reducible refine gate_callee (f := 13) rfl ?_); refine goesL_ (some 32) rfl rfl Try.func13 (by kernel_rfl) rfl #[] rfl (by (try simp only [List.map_toArray, List.map_cons, List.map_nil]); first | done | rfl | (simp only [List.length_drop, List.length_take]; rfl)) ?_; (with_reducible refine (cutroomlaw08_awake.calls k  t269 _ A125.out).mono ?_); rintro e w141 ⟨rfl, hb⟩; refine ⟨_, rfl, ?_⟩; have n0_ := Aside0.mk (Kd.R_below (by (with_reducible repeat (first | apply Kd.R_alloc | apply Kd.R_drewN | apply Kd.R_drew)); exact (Kd.R_mono (Kd.R_far (p := ⟨gb268, 4, none⟩) (Kd.R_far (p := ⟨gb268, 3, none⟩) (Kd.R_far (p := ⟨gb268, 2, none⟩) (Kd.R_far (p := ⟨gb268, 1, none⟩) (Kd.R_far (p := ⟨gb268, 0, none⟩) (Kd.R_types HO260.out BK268.out (by decide)) (fun _ hk => hk.2) (.int .i64 t256)) (fun _ hk => hk.2) (.int .i64 t257)) (fun _ hk => hk.2) (.slice Ao138 t258.length co138)) (fun _ hk => hk.2) (.slice Ao139 t261.length co139)) (fun _ hk => hk.2) (.slice Ao140 t264.length co140)) (fun _ h_ => h_.1))) hb); have n1_ := Aside0.mk (Kd.R_below (by (with_reducible repeat (first | apply Kd.R_alloc | apply Kd.R_drewN | apply Kd.R_drew)); exact (Kd.R_mono (Kd.R_far (p := ⟨gb268, 4, none⟩) (Kd.R_far (p := ⟨gb268, 3, none⟩) (Kd.R_far (p := ⟨gb268, 2, none⟩) (Kd.R_far (p := ⟨gb268, 1, none⟩) (Kd.R_far (p := ⟨gb268, 0, none⟩) (Kd.R_types HO263.out BK268.out (by decide)) (fun _ hk => hk.2) (.int .i64 t256)) (fun _ hk => hk.2) (.int .i64 t257)) (fun _ hk => hk.2) (.slice Ao138 t258.length co138)) (fun _ hk => hk.2) (.slice Ao139 t261.length co139)) (fun _ hk => hk.2) (.slice Ao140 t264.length co140)) (fun _ h_ => h_.1))) hb); have n2_ := Aside0.mk (Kd.R_below (by (with_reducible repeat (first | apply Kd.R_alloc | apply Kd.R_drewN | apply Kd.R_drew)); exact (Kd.R_mono (Kd.R_far (p := ⟨gb268, 4, none⟩) (Kd.R_far (p := ⟨gb268, 3, none⟩) (Kd.R_far (p := ⟨gb268, 2, none⟩) (Kd.R_far (p := ⟨gb268, 1, none⟩) (Kd.R_far (p := ⟨gb268, 0, none⟩) (Kd.R_types HO266.out BK268.out (by decide)) (fun _ hk => hk.2) (.int .i64 t256)) (fun _ hk => hk.2) (.int .i64 t257)) (fun _ hk => hk.2) (.slice Ao138 t258.length co138)) (fun _ hk => hk.2) (.slice Ao139 t261.length co139)) (fun _ hk => hk.2) (.slice Ao140 t264.length co140)) (fun _ h_ => h_.1))) hb); have n3_ := Aside0.mk (blk_below (g := gb253) (o := .cells #[.int .i64 a0_0, .int .i64 a0_1, .slice A0_2 l0_2.length c0_2, .slice A0_3 l0_3.length c0_3, .slice A0_4 l0_4.length c0_4] 24 (0, 0)) (by (with_reducible repeat (first | refine blk_drewN ?_ _ | refine blk_drew ?_ | refine blk_alloc ?_ _)); refine blk_far ?_ NB253_268.out _; (with_reducible repeat (first | refine blk_drewN ?_ _ | refine blk_drew ?_ | refine blk_alloc ?_ _)); refine blk_far ?_ NB253_268.out _; (with_reducible repeat (first | refine blk_drewN ?_ _ | refine blk_drew ?_ | refine blk_alloc ?_ _)); refine blk_far ?_ NB253_268.out _; (with_reducible repeat (first | refine blk_drewN ?_ _ | refine blk_drew ?_ | refine blk_alloc ?_ _)); refine blk_far ?_ NB253_268.out _; (with_reducible repeat (first | refine blk_drewN ?_ _ | refine blk_drew ?_ | refine blk_alloc ?_ _)); refine blk_far ?_ NB253_268.out _; (with_reducible repeat (first | refine blk_drewN ?_ _ | refine blk_drew ?_ | refine blk_alloc ?_ _)); exact BK253.out) hb); have n4_ := Aside0.mk (blk_below (g := gb254) (o := .cells #[.int .i64 a1_0, .int .i64 a1_1, .int .i64 a1_2, .int .i64 a1_3, .int .i64 a1_4, .int .i64 a1_5] 34 (0, 0)) (by (with_reducible repeat (first | refine blk_drewN ?_ _ | refine blk_drew ?_ | refine blk_alloc ?_ _)); refine blk_far ?_ NB254_268.out _; (with_reducible repeat (first | refine blk_drewN ?_ _ | refine blk_drew ?_ | refine blk_alloc ?_ _)); refine blk_far ?_ NB254_268.out _; (with_reducible repeat (first | refine blk_drewN ?_ _ | refine blk_drew ?_ | refine blk_alloc ?_ _)); refine blk_far ?_ NB254_268.out _; (with_reducible repeat (first | refine blk_drewN ?_ _ | refine blk_drew ?_ | refine blk_alloc ?_ _)); refine blk_far ?_ NB254_268.out _; (with_reducible repeat (first | refine blk_drewN ?_ _ | refine blk_drew ?_ | refine blk_alloc ?_ _)); refine blk_far ?_ NB254_268.out _; (with_reducible repeat (first | refine blk_drewN ?_ _ | refine blk_drew ?_ | refine blk_alloc ?_ _)); exact BK254.out) hb); have n5_ := Aside0.mk (blk_below (g := gb268) (o := .cells #[.int .i64 t256, .int .i64 t257, .slice Ao138 t258.length co138, .slice Ao139 t261.length co139, .slice Ao140 t264.length co140] 24 (0, 0)) (by (with_reducible repeat (first | refine blk_drewN ?_ _ | refine blk_drew ?_ | refine blk_alloc ?_ _)); refine blk_put (cs := #[.int .i64 t256, .int .i64 t257, .slice Ao138 t258.length co138, .slice Ao139 t261.length co139, .slice none 0 0]) ?_ 4 _ rfl; (with_reducible repeat (first | refine blk_drewN ?_ _ | refine blk_drew ?_ | refine blk_alloc ?_ _)); refine blk_put (cs := #[.int .i64 t256, .int .i64 t257, .slice Ao138 t258.length co138, .slice none 0 0, .slice none 0 0]) ?_ 3 _ rfl; (with_reducible repeat (first | refine blk_drewN ?_ _ | refine blk_drew ?_ | refine blk_alloc ?_ _)); refine blk_put (cs := #[.int .i64 t256, .int .i64 t257, .slice none 0 0, .slice none 0 0, .slice none 0 0]) ?_ 2 _ rfl; (with_reducible repeat (first | refine blk_drewN ?_ _ | refine blk_drew ?_ | refine blk_alloc ?_ _)); refine blk_put (cs := #[.int .i64 t256, .int .i64 0, .slice none 0 0, .slice none 0 0, .slice none 0 0]) ?_ 1 _ rfl; (with_reducible repeat (first | refine blk_drewN ?_ _ | refine blk_drew ?_ | refine blk_alloc ?_ _)); refine blk_put (cs := #[.int .i64 0, .int .i64 0, .slice none 0 0, .slice none 0 0, .slice none 0 0]) ?_ 0 _ rfl; (with_reducible repeat (first | refine blk_drewN ?_ _ | refine blk_drew ?_ | refine blk_alloc ?_ _)); exact BK268.out) hb); have n6_ := Aside0.mk (below_step (by repeat (first | (with_reducible first | exact HB.out | apply below_alloc | apply pw_below_drewN | apply below_drew1 | refine below_set ?_ GE253.out | refine below_set ?_ GE254.out | refine below_set ?_ GE268.out) | exact HB.out)) hb); clear HO260; clear HO263; clear HO266; clear BK253; clear BK254; clear BK268; clear HB; have HO260 := n0_; have HO263 := n1_; have HO266 := n2_; have BK253 := n3_; have BK254 := n4_; have BK268 := n5_; have HB := n6_; clear n0_ n1_ n2_ n3_ n4_ n5_ n6_; (try clear hb); (try clear hb2); (try clear hk); (try clear hi)))
   go_ret
   exact ⟨by first | rfl | (simp [errW_none, errW_some] <;> rfl) | (simp [*, errW_none, errW_some] <;> rfl), by repeat (first | (with_reducible first | exact HB.out | apply below_alloc | apply pw_below_drewN | apply below_drew1 | refine below_set ?_ GE253.out | refine below_set ?_ GE254.out | refine below_set ?_ GE268.out) | exact HB.out)⟩
 ·
  replace c4 := Bool.eq_false_iff.mpr c4
  subst c4
  have H1 : (some true) = some r := by rw [if_neg (show ¬ (false = true) by decide)] at H; exact H
  clear H
  have H := H1
  clear H1
  obtain rfl := Option.some.inj H
  go_enter Try.func7, Try.ntmps7
  go_wp2_with (first | ((with_reducible refine gate_dst (N := 2) rfl ?_); (try (refine gate_guard (by rfl) ?_; dsimp only)); refine box_event ?hg (N := 2) ?hd (cs := #[.int .i64 a0_0, .int .i64 a0_1, .slice A0_2 l0_2.length c0_2, .slice A0_3 l0_3.length c0_3, .slice A0_4 l0_4.length c0_4]) (t := 24) ?hr ?_; (case hd => rfl); (case hg => rfl); (case hr => first | (go_simp; done) | (go_simp; rfl)); intro gb253 hg w142 hbox hb; have n0_ := Aside0.mk (below_step (by repeat (first | (with_reducible first | exact HB.out | apply below_alloc | apply pw_below_drewN | apply below_drew1) | exact HB.out)) hb); have n1_ := Aside0.mk (hbox); have n2_ := Aside0.mk ((by rw [hg]; exact (below_size (by repeat (first | (with_reducible first | exact HB.out | apply below_alloc | apply pw_below_drewN | apply below_drew1) | exact HB.out))) : w.heap.size ≤ gb253)); have n3_ := Aside0.mk ((by rw [hg]; exact (below_size (by repeat (first | (with_reducible first | exact HB.out | apply below_alloc | apply pw_below_drewN | apply below_drew1) | exact HB.out))) : w.heap.size ≤ gb253)); clear HB; have HB := n0_; have BK253 := n1_; have GW253 := n2_; have GE253 := n3_; clear n0_ n1_ n2_ n3_; clear hb hbox hg) | ((with_reducible refine gate_dst (N := 3) rfl ?_); (try (refine gate_guard (by rfl) ?_; dsimp only)); refine box_event ?hg (N := 3) ?hd (cs := #[.int .i64 a1_0, .int .i64 a1_1, .int .i64 a1_2, .int .i64 a1_3, .int .i64 a1_4, .int .i64 a1_5]) (t := 34) ?hr ?_; (case hd => rfl); (case hg => rfl); (case hr => first | (go_simp; done) | (go_simp; rfl)); intro gb254 hg w143 hbox hb; have n0_ := Aside0.mk (blk_below (g := gb253) (o := .cells #[.int .i64 a0_0, .int .i64 a0_1, .slice A0_2 l0_2.length c0_2, .slice A0_3 l0_3.length c0_3, .slice A0_4 l0_4.length c0_4] 24 (0, 0)) (by (with_reducible repeat (first | refine blk_drewN ?_ _ | refine blk_drew ?_ | refine blk_alloc ?_ _)); exact BK253.out) hb); have n1_ := Aside0.mk (below_step (by repeat (first | (with_reducible first | exact HB.out | apply below_alloc | apply pw_below_drewN | apply below_drew1 | refine below_set ?_ GE253.out) | exact HB.out)) hb); have n2_ := Aside0.mk (hbox); have n3_ := Aside0.mk ((by rw [hg]; exact (below_size (by repeat (first | (with_reducible first | exact HB.out | apply below_alloc | apply pw_below_drewN | apply below_drew1 | refine below_set ?_ GE253.out) | exact HB.out))) : w.heap.size ≤ gb254)); have n4_ := Aside0.mk ((by rw [hg]; exact (below_size (by repeat (first | (with_reducible first | exact HB.out | apply below_alloc | apply pw_below_drewN | apply below_drew1 | refine below_set ?_ GE253.out) | exact HB.out))) : w.heap.size ≤ gb254)); have n5_ := Aside0.mk ((by rw [hg]; exact Nat.ne_of_lt (blk_lt (g := gb253) (o := .cells #[.int .i64 a0_0, .int .i64 a0_1, .slice A0_2 l0_2.length c0_2, .slice A0_3 l0_3.length c0_3, .slice A0_4 l0_4.length c0_4] 24 (0, 0)) (by (with_reducible repeat (first | refine blk_drewN ?_ _ | refine blk_drew ?_ | refine blk_alloc ?_ _)); exact BK253.out)) : gb253 ≠ gb254)); have n6_ := Aside0.mk ((by rw [hg]; exact Nat.ne_of_gt (blk_lt (g := gb253) (o := .cells #[.int .i64 a0_0, .int .i64 a0_1, .slice A0_2 l0_2.length c0_2, .slice A0_3 l0_3.length c0_3, .slice A0_4 l0_4.length c0_4] 24 (0, 0)) (by (with_reducible repeat (first | refine blk_drewN ?_ _ | refine blk_drew ?_ | refine blk_alloc ?_ _)); exact BK253.out)) : gb254 ≠ gb253)); clear BK253; clear HB; have BK253 := n0_; have HB := n1_; have BK254 := n2_; have GW254 := n3_; have GE254 := n4_; have NB253_254 := n5_; have NB254_253 := n6_; clear n0_ n1_ n2_ n3_ n4_ n5_ n6_; clear hb hbox hg; have hnb144 := NB253_254.out; have hnc144 := NB254_253.out; have hcz145_0 : w143.cell? ⟨gb253, 0, none⟩ = some (.int .i64 a0_0) := (blk_cell BK253.out 0).trans rfl; have hcz145_1 : w143.cell? ⟨gb253, 1, none⟩ = some (.int .i64 a0_1) := (blk_cell BK253.out 1).trans rfl; have hcz145_2 : w143.cell? ⟨gb253, 2, none⟩ = some (.slice A0_2 l0_2.length c0_2) := (blk_cell BK253.out 2).trans rfl; have hcz145_3 : w143.cell? ⟨gb253, 3, none⟩ = some (.slice A0_3 l0_3.length c0_3) := (blk_cell BK253.out 3).trans rfl; have hcz145_4 : w143.cell? ⟨gb253, 4, none⟩ = some (.slice A0_4 l0_4.length c0_4) := (blk_cell BK253.out 4).trans rfl; have hfz145_0 := blk_frozen BK253.out 0; have hfz145_1 := blk_frozen BK253.out 1; have hfz145_2 := blk_frozen BK253.out 2; have hfz145_3 := blk_frozen BK253.out 3; have hfz145_4 := blk_frozen BK253.out 4) | ((with_reducible refine gate_callee (f := 10) rfl ?_); refine goesL_ (some 13) rfl rfl Try.func10 (by kernel_rfl) rfl #[.agg #[.int .i64 a0_0, .int .i64 a0_1, .slice A0_2 l0_2.length c0_2, .slice A0_3 l0_3.length c0_3, .slice A0_4 l0_4.length c0_4]] rfl (by (try simp only [List.map_toArray, List.map_cons, List.map_nil]); first | done | rfl | (simp only [List.length_drop, List.length_take]; rfl)) ?_; (with_reducible refine (cutroomlaw08_light.calls a0_0 a0_1 _ _ l0_2 _ _ l0_3 _ _ l0_4 false _ ?side1 ?side2 ?side3 ?side4 ?side5 ?side6 A3.out).mono ?_); (case side1 => repeat (first | exact (Kd.C_below HR0_2.out HB.out) | (with_reducible refine Kd.C_alloc ?_ _) | (with_reducible refine Kd.C_drewN ?_ _) | (with_reducible refine Kd.C_drew ?_))); (case side2 => exact HC0_2.out); (case side3 => repeat (first | exact (Kd.C_below HR0_3.out HB.out) | (with_reducible refine Kd.C_alloc ?_ _) | (with_reducible refine Kd.C_drewN ?_ _) | (with_reducible refine Kd.C_drew ?_))); (case side4 => exact HC0_3.out); (case side5 => repeat (first | exact (Kd.C_below HR0_4.out HB.out) | (with_reducible refine Kd.C_alloc ?_ _) | (with_reducible refine Kd.C_drewN ?_ _) | (with_reducible refine Kd.C_drew ?_))); (case side6 => exact HC0_4.out); rintro e w146 ⟨rfl, hb⟩; refine ⟨_, rfl, ?_⟩; have n0_ := Aside0.mk (blk_below (g := gb253) (o := .cells #[.int .i64 a0_0, .int .i64 a0_1, .slice A0_2 l0_2.length c0_2, .slice A0_3 l0_3.length c0_3, .slice A0_4 l0_4.length c0_4] 24 (0, 0)) (by (with_reducible repeat (first | refine blk_drewN ?_ _ | refine blk_drew ?_ | refine blk_alloc ?_ _)); exact BK253.out) hb); have n1_ := Aside0.mk (blk_below (g := gb254) (o := .cells #[.int .i64 a1_0, .int .i64 a1_1, .int .i64 a1_2, .int .i64 a1_3, .int .i64 a1_4, .int .i64 a1_5] 34 (0, 0)) (by (with_reducible repeat (first | refine blk_drewN ?_ _ | refine blk_drew ?_ | refine blk_alloc ?_ _)); exact BK254.out) hb); have n2_ := Aside0.mk (below_step (by repeat (first | (with_reducible first | exact HB.out | apply below_alloc | apply pw_below_drewN | apply below_drew1 | refine below_set ?_ GE253.out | refine below_set ?_ GE254.out) | exact HB.out)) hb); clear BK253; clear BK254; clear HB; have BK253 := n0_; have BK254 := n1_; have HB := n2_; clear n0_ n1_ n2_; (try clear hb); (try clear hb2); (try clear hk); (try clear hi)))
  go_ret
  exact ⟨by first | rfl | (simp [errW_none, errW_some] <;> rfl) | (simp [*, errW_none, errW_some] <;> rfl), by repeat (first | (with_reducible first | exact HB.out | apply below_alloc | apply pw_below_drewN | apply below_drew1 | refine below_set ?_ GE253.out | refine below_set ?_ GE254.out) | exact HB.out)⟩

end Go.Proofs.Ytnihjbcdlgfklaa.PMotionMirror
