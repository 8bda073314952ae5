/- The law cutroomlaw08.MotionMirror: for every input it returns true, and what came in reads as it did; no condition. -/
import Derived.Test.YtnihjbcdlgfklaaRows
import Derived.Test.YtnihjbcdlgfklaaPMotionMirrorx9
import Derived.Test.YtnihjbcdlgfklaaPureMotionMirror
import Derived.Test.YtnihjbcdlgfklaaVMotionMirrorOpen
import Derived.WalkKit
import Derived.ProofKit
import Derived.OpenShut
import Derived.ShutString
import Derived.ChangeOld
import Derived.Below
import Derived.SizedLaws
import Derived.Carry
namespace Go.Proofs.Ytnihjbcdlgfklaa.motionMirror
open Go.ChangeShapes Go.WideShapes Go.ChangeAt Go.RowKit Go.Proofs.Ytnihjbcdlgfklaa.Opens Go.Proofs.YtnihjbcdlgfklaaW.PrintWords
open Go.ChangeMaps (open_string shut_string)
set_option linter.unusedVariables false
theorem own : ownKnob Try.prog.godebug = none := by kernel_rfl
theorem laidOut : laidOutB Try.prog = true := by kernel_rfl
theorem list5 {cs : List Value} (h : cs.length = 5) : ∃ x0 x1 x2 x3 x4, cs = [x0, x1, x2, x3, x4] := by
  match cs, h with
  | [x0, x1, x2, x3, x4], _ => exact ⟨x0, x1, x2, x3, x4, rfl⟩
theorem list6 {cs : List Value} (h : cs.length = 6) : ∃ x0 x1 x2 x3 x4 x5, cs = [x0, x1, x2, x3, x4, x5] := by
  match cs, h with
  | [x0, x1, x2, x3, x4, x5], _ => exact ⟨x0, x1, x2, x3, x4, x5, rfl⟩
set_option maxRecDepth 100000 in
set_option maxHeartbeats 4000000 in
theorem lifted (os : Os) (started : os.Started) (H : Type) (enc : TypeId × Value → H) :
    ReturnsInHanded {} Try.checked os 7 .any (Rows.motionMirrorSpec.pre6 enc Try.prog Try.f7 Rows.motionMirrorRow.domain false) (Rows.motionMirrorSpec.post enc Try.prog Try.f7 false true false false) := by
  refine returnsInHanded_of_change_sized (C := Try.checked) own started (by kernel_rfl) Try.func7
    (ChangeSpec.witness6 (enc := enc) (C := Try.checked) false ⟨#[], #[.agg #[.int .i64 0, .int .i64 0, .slice none 0 0, .slice none 0 0, .slice none 0 0], .agg #[.int .i64 0, .int .i64 0, .int .i64 0, .int .i64 0, .int .i64 0, .int .i64 0]], []⟩ 8 (by kernel_rfl) (by kernel_rfl) (by kernel_rfl) (by kernel_rfl)) ?_
  intro W base args ds gs before hval0 hW hcnd hsz0 _
  have hsz : (DataW.weightsEach Try.prog (Try.f7.params.toList ++ Rows.motionMirrorSpec.plain.varTypes Try.prog) (ds ++ gs)).all (· ≤ reachBytes) = true := hsz0
  have hval : ∀ (j : Nat) t v, Try.f7.params[j]? = some t → args[j]? = some v → Value.okWide Try.prog W .any base t v := hval0
  have hW' := hW
  obtain ⟨p, q, hA0, hV, rfl, hfz, hnd⟩ := hW
  have hA : DataW.TrodAll enc Try.prog W 0 (fun _ => true) true Try.f7.params.toList args.toList ds p := hA0
  rw [Try.params7] at hA hval hsz
  obtain ⟨v0, vs0, d0, ds0, p0, q0, hargs, rfl, rfl, h0, r0⟩ := trodAll_cons hA
  obtain ⟨v1, vs1, d1, ds1, p1, q1, rfl, rfl, rfl, h1, r1⟩ := trodAll_cons r0
  obtain ⟨rfl, rfl, rfl⟩ := trodAll_nil r1
  obtain rfl : args = #[v0, v1] := by cases args; simp_all
  obtain ⟨rfl, rfl⟩ := trodVars_none hV
  have k0 := h0
  have lt0 : ∀ x ∈ p0, x.block < W.heap.size := by obtain ⟨m, hm⟩ := k0; exact DataW.trod_lt m _ _ _ hm
  have hz0 : ∀ m ∈ d0.weights Try.prog 24, m ≤ reachBytes := fun m hm => by
    have z := List.all_eq_true.1 hsz _ (DataW.weights_mem_each (j := 0) (t := 24) (d := d0) rfl rfl m hm)
    simpa using z
  obtain ⟨fu0, hf0⟩ := h0
  obtain ⟨cs0, rfl, hcs0⟩ := agg_cells Try.underlying24 (hval 0 24 v0 rfl rfl)
  rw [hcs0] at hf0
  obtain ⟨x0_0, x0_1, x0_2, x0_3, x0_4, rfl⟩ : ∃ x0_0 x0_1 x0_2 x0_3 x0_4, cs0 = [x0_0, x0_1, x0_2, x0_3, x0_4] := by
    have hl := trod_length Try.underlying24 hf0 (n := 5) (by kernel_rfl)
    exact list5 hl
  obtain ⟨fu_1, y_2, hy_3, hw_4⟩ := trod_field Try.underlying24 hf0 hz0 0 rfl (o := 0) (n := 1) (ft := 3) rfl rfl (by kernel_rfl)
  replace hy_3 : DataW.trod enc Try.prog W 0 (fun _ => true) true fu_1 3 [x0_0] = some y_2 := hy_3
  obtain ⟨a0_0, hk0_0, hq0_0⟩ := (opn_int Try.underlying3) enc W 0 true fu_1 _ _ hy_3 hw_4
  obtain rfl := (List.cons.inj hk0_0).1
  obtain ⟨fu_5, y_6, hy_7, hw_8⟩ := trod_field Try.underlying24 hf0 hz0 1 rfl (o := 1) (n := 1) (ft := 3) rfl rfl (by kernel_rfl)
  replace hy_7 : DataW.trod enc Try.prog W 0 (fun _ => true) true fu_5 3 [x0_1] = some y_6 := hy_7
  obtain ⟨a0_1, hk0_1, hq0_1⟩ := (opn_int Try.underlying3) enc W 0 true fu_5 _ _ hy_7 hw_8
  obtain rfl := (List.cons.inj hk0_1).1
  obtain ⟨fu_9, y_10, hy_11, hw_12⟩ := trod_field Try.underlying24 hf0 hz0 2 rfl (o := 2) (n := 1) (ft := 22) rfl rfl (by kernel_rfl)
  replace hy_11 : DataW.trod enc Try.prog W 0 (fun _ => true) true fu_9 22 [x0_2] = some y_10 := hy_11
  obtain ⟨l0_2, ⟨A0_2, c0_2, he0_2, hc0_2, hr0_2⟩, hq0_2⟩ := (opn_slice Try.underlying22 (by kernel_rfl) (B := 1) (by kernel_rfl) (opn_int Try.underlying5)) enc W 0 true fu_9 _ _ hy_11 hw_12
  obtain rfl := (List.cons.inj he0_2).1
  obtain ⟨fu_13, y_14, hy_15, hw_16⟩ := trod_field Try.underlying24 hf0 hz0 3 rfl (o := 3) (n := 1) (ft := 22) rfl rfl (by kernel_rfl)
  replace hy_15 : DataW.trod enc Try.prog W 0 (fun _ => true) true fu_13 22 [x0_3] = some y_14 := hy_15
  obtain ⟨l0_3, ⟨A0_3, c0_3, he0_3, hc0_3, hr0_3⟩, hq0_3⟩ := (opn_slice Try.underlying22 (by kernel_rfl) (B := 1) (by kernel_rfl) (opn_int Try.underlying5)) enc W 0 true fu_13 _ _ hy_15 hw_16
  obtain rfl := (List.cons.inj he0_3).1
  obtain ⟨fu_17, y_18, hy_19, hw_20⟩ := trod_field Try.underlying24 hf0 hz0 4 rfl (o := 4) (n := 1) (ft := 22) rfl rfl (by kernel_rfl)
  replace hy_19 : DataW.trod enc Try.prog W 0 (fun _ => true) true fu_17 22 [x0_4] = some y_18 := hy_19
  obtain ⟨l0_4, ⟨A0_4, c0_4, he0_4, hc0_4, hr0_4⟩, hq0_4⟩ := (opn_slice Try.underlying22 (by kernel_rfl) (B := 1) (by kernel_rfl) (opn_int Try.underlying5)) enc W 0 true fu_17 _ _ hy_19 hw_20
  obtain rfl := (List.cons.inj he0_4).1
  have k1 := h1
  have lt1 : ∀ x ∈ p1, x.block < W.heap.size := by obtain ⟨m, hm⟩ := k1; exact DataW.trod_lt m _ _ _ hm
  have hz1 : ∀ m ∈ d1.weights Try.prog 34, m ≤ reachBytes := fun m hm => by
    have z := List.all_eq_true.1 hsz _ (DataW.weights_mem_each (j := 1) (t := 34) (d := d1) rfl rfl m hm)
    simpa using z
  obtain ⟨fu1, hf1⟩ := h1
  obtain ⟨cs1, rfl, hcs1⟩ := agg_cells Try.underlying34 (hval 1 34 v1 rfl rfl)
  rw [hcs1] at hf1
  obtain ⟨x1_0, x1_1, x1_2, x1_3, x1_4, x1_5, rfl⟩ : ∃ x1_0 x1_1 x1_2 x1_3 x1_4 x1_5, cs1 = [x1_0, x1_1, x1_2, x1_3, x1_4, x1_5] := by
    have hl := trod_length Try.underlying34 hf1 (n := 6) (by kernel_rfl)
    exact list6 hl
  obtain ⟨fu_21, y_22, hy_23, hw_24⟩ := trod_field Try.underlying34 hf1 hz1 0 rfl (o := 0) (n := 1) (ft := 3) rfl rfl (by kernel_rfl)
  replace hy_23 : DataW.trod enc Try.prog W 0 (fun _ => true) true fu_21 3 [x1_0] = some y_22 := hy_23
  obtain ⟨a1_0, hk1_0, hq1_0⟩ := (opn_int Try.underlying3) enc W 0 true fu_21 _ _ hy_23 hw_24
  obtain rfl := (List.cons.inj hk1_0).1
  obtain ⟨fu_25, y_26, hy_27, hw_28⟩ := trod_field Try.underlying34 hf1 hz1 1 rfl (o := 1) (n := 1) (ft := 3) rfl rfl (by kernel_rfl)
  replace hy_27 : DataW.trod enc Try.prog W 0 (fun _ => true) true fu_25 3 [x1_1] = some y_26 := hy_27
  obtain ⟨a1_1, hk1_1, hq1_1⟩ := (opn_int Try.underlying3) enc W 0 true fu_25 _ _ hy_27 hw_28
  obtain rfl := (List.cons.inj hk1_1).1
  obtain ⟨fu_29, y_30, hy_31, hw_32⟩ := trod_field Try.underlying34 hf1 hz1 2 rfl (o := 2) (n := 1) (ft := 3) rfl rfl (by kernel_rfl)
  replace hy_31 : DataW.trod enc Try.prog W 0 (fun _ => true) true fu_29 3 [x1_2] = some y_30 := hy_31
  obtain ⟨a1_2, hk1_2, hq1_2⟩ := (opn_int Try.underlying3) enc W 0 true fu_29 _ _ hy_31 hw_32
  obtain rfl := (List.cons.inj hk1_2).1
  obtain ⟨fu_33, y_34, hy_35, hw_36⟩ := trod_field Try.underlying34 hf1 hz1 3 rfl (o := 3) (n := 1) (ft := 3) rfl rfl (by kernel_rfl)
  replace hy_35 : DataW.trod enc Try.prog W 0 (fun _ => true) true fu_33 3 [x1_3] = some y_34 := hy_35
  obtain ⟨a1_3, hk1_3, hq1_3⟩ := (opn_int Try.underlying3) enc W 0 true fu_33 _ _ hy_35 hw_36
  obtain rfl := (List.cons.inj hk1_3).1
  obtain ⟨fu_37, y_38, hy_39, hw_40⟩ := trod_field Try.underlying34 hf1 hz1 4 rfl (o := 4) (n := 2) (ft := 32) rfl rfl (by kernel_rfl)
  replace hy_39 : DataW.trod enc Try.prog W 0 (fun _ => true) true fu_37 32 [x1_4, x1_5] = some y_38 := hy_39
  obtain ⟨fu_41, y_42, hy_43, hw_44⟩ := trod_field Try.underlying32 hy_39 hw_40 0 rfl (o := 0) (n := 1) (ft := 3) rfl rfl (by kernel_rfl)
  replace hy_43 : DataW.trod enc Try.prog W 0 (fun _ => true) true fu_41 3 [x1_4] = some y_42 := hy_43
  obtain ⟨a1_4, hk1_4, hq1_4⟩ := (opn_int Try.underlying3) enc W 0 true fu_41 _ _ hy_43 hw_44
  obtain rfl := (List.cons.inj hk1_4).1
  obtain ⟨fu_45, y_46, hy_47, hw_48⟩ := trod_field Try.underlying32 hy_39 hw_40 1 rfl (o := 1) (n := 1) (ft := 3) rfl rfl (by kernel_rfl)
  replace hy_47 : DataW.trod enc Try.prog W 0 (fun _ => true) true fu_45 3 [x1_5] = some y_46 := hy_47
  obtain ⟨a1_5, hk1_5, hq1_5⟩ := (opn_int Try.underlying3) enc W 0 true fu_45 _ _ hy_47 hw_48
  obtain rfl := (List.cons.inj hk1_5).1
  obtain ⟨k, hp⟩ := Pure.MotionMirror a0_0 a0_1 l0_2 l0_3 l0_4 a1_0 a1_1 a1_2 a1_3 a1_4 a1_5 hq0_0 hq0_1 hq0_2 hq0_3 hq0_4 hq1_0 hq1_1 hq1_2 hq1_3 hq1_4 hq1_5
  refine (PMotionMirror.cutroomlaw08_MotionMirror.calls k a0_0 a0_1 A0_2 c0_2 l0_2 A0_3 c0_3 l0_3 A0_4 c0_4 l0_4 a1_0 a1_1 a1_2 a1_3 a1_4 a1_5 true W hr0_2 hc0_2 hr0_3 hc0_3 hr0_4 hc0_4 hp).mono fun e W' ⟨he, bel0⟩ => ?_
  have bel : Below W.heap.size W W' := bel0
  subst he
  exact ⟨_, rfl, _, _, _, [], _, [], hW', trodAll_mk1 (shut_bool Try.underlying4 _), (trodAll_cons_mk (Below.trod laidOut (by kernel_rfl) (of_decide_eq_true (by kernel_rfl)) k0 bel lt0) (trodAll_cons_mk (Below.trod laidOut (by kernel_rfl) (of_decide_eq_true (by kernel_rfl)) k1 bel lt1) trodAll_mk0)), rfl, bel.frame _, fun h => by cases h⟩
theorem over : Rows.motionMirrorRow.holds Try.pinned (OpenSpec.ofChange Rows.motionMirrorSpec) :=
  OpenClaim.holds_of_wide 7 Try.f7 rfl rfl rfl rfl rfl rfl rfl ⟨rfl, rfl, rfl, rfl, rfl⟩ rfl rfl rfl rfl rfl (by kernel_rfl) Try.func7 (by kernel_rfl)
    (of_decide_eq_true (by kernel_rfl)) (by unfold Func.isWrapper; first | (rw [if_pos (by decide +kernel)]; kernel_rfl) | (rw [if_neg (by decide +kernel)]; exact ⟨rfl, rfl⟩))
    (fun os started H enc _ => lifted os started H enc)
theorem proved : Rows.MotionMirrorSaid := over
#print axioms proved
end Go.Proofs.Ytnihjbcdlgfklaa.motionMirror
namespace Go.Proofs.Ytnihjbcdlgfklaa
/-- The row, under a short name, for the claim. -/
theorem motionMirror_holds : Rows.MotionMirrorSaid := motionMirror.proved
end Go.Proofs.Ytnihjbcdlgfklaa
