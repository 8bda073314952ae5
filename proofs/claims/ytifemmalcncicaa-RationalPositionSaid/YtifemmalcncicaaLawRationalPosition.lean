/- The law cutroomlaw01.RationalPosition: for every input it returns true, and what came in reads as it did; no condition. -/
import Derived.Test.YtifemmalcncicaaRows
import Derived.Test.YtifemmalcncicaaPRationalPositionx6
import Derived.Test.YtifemmalcncicaaPureRationalPosition
import Derived.Test.YtifemmalcncicaaOpen
import Derived.WalkKit
import Derived.ProofKit
import Derived.OpenShut
import Derived.ShutString
import Derived.ChangeOld
import Derived.Below
import Derived.SizedLaws
import Derived.Carry
namespace Go.Proofs.Ytifemmalcncicaa.rationalPosition
open Go.ChangeShapes Go.WideShapes Go.ChangeAt Go.RowKit Go.Proofs.Ytifemmalcncicaa.Opens Go.Proofs.YtifemmalcncicaaW.PrintWords
open Go.ChangeMaps (open_string shut_string)
set_option linter.unusedVariables false
theorem own : ownKnob Try.prog.godebug = none := by kernel_rfl
theorem laidOut : laidOutB Try.prog = true := by kernel_rfl
theorem list2 {cs : List Value} (h : cs.length = 2) : ∃ x0 x1, cs = [x0, x1] := by
  match cs, h with
  | [x0, x1], _ => exact ⟨x0, x1, rfl⟩
set_option maxRecDepth 100000 in
set_option maxHeartbeats 4000000 in
theorem lifted (os : Os) (started : os.Started) (H : Type) (enc : TypeId × Value → H) :
    ReturnsInHanded {} Try.checked os 8 .any (Rows.rationalPositionSpec.pre6 enc Try.prog Try.f8 Rows.rationalPositionRow.domain false) (Rows.rationalPositionSpec.post enc Try.prog Try.f8 false true false false) := by
  refine returnsInHanded_of_change_sized (C := Try.checked) own started (by kernel_rfl) Try.func8
    (ChangeSpec.witness6 (enc := enc) (C := Try.checked) false ⟨#[], #[.int .i64 0, .agg #[.int .i64 0, .int .i64 0], .agg #[.int .i64 0, .int .i64 0]], []⟩ 8 (by kernel_rfl) (by kernel_rfl) (by kernel_rfl) (by kernel_rfl)) ?_
  intro W base args ds gs before hval0 hW hcnd hsz0 _
  have hsz : (DataW.weightsEach Try.prog (Try.f8.params.toList ++ Rows.rationalPositionSpec.plain.varTypes Try.prog) (ds ++ gs)).all (· ≤ reachBytes) = true := hsz0
  have hval : ∀ (j : Nat) t v, Try.f8.params[j]? = some t → args[j]? = some v → Value.okWide Try.prog W .any base t v := hval0
  have hW' := hW
  obtain ⟨p, q, hA0, hV, rfl, hfz, hnd⟩ := hW
  have hA : DataW.TrodAll enc Try.prog W 0 (fun _ => true) true Try.f8.params.toList args.toList ds p := hA0
  rw [Try.params8] at hA hval hsz
  obtain ⟨v0, vs0, d0, ds0, p0, q0, hargs, rfl, rfl, h0, r0⟩ := trodAll_cons hA
  obtain ⟨v1, vs1, d1, ds1, p1, q1, rfl, rfl, rfl, h1, r1⟩ := trodAll_cons r0
  obtain ⟨v2, vs2, d2, ds2, p2, q2, rfl, rfl, rfl, h2, r2⟩ := trodAll_cons r1
  obtain ⟨rfl, rfl, rfl⟩ := trodAll_nil r2
  obtain rfl : args = #[v0, v1, v2] := by cases args; simp_all
  obtain ⟨rfl, rfl⟩ := trodVars_none hV
  obtain ⟨a0, rfl, rfl, rfl, w0⟩ := open_int Try.underlying2 (hval 0 2 v0 rfl rfl) h0
  have k1 := h1
  have lt1 : ∀ x ∈ p1, x.block < W.heap.size := by obtain ⟨m, hm⟩ := k1; exact DataW.trod_lt m _ _ _ hm
  have hz1 : ∀ m ∈ d1.weights Try.prog 23, m ≤ reachBytes := fun m hm => by
    have z := List.all_eq_true.1 hsz _ (DataW.weights_mem_each (j := 1) (t := 23) (d := d1) rfl rfl m hm)
    simpa using z
  obtain ⟨fu1, hf1⟩ := h1
  obtain ⟨cs1, rfl, hcs1⟩ := agg_cells Try.underlying23 (hval 1 23 v1 rfl rfl)
  rw [hcs1] at hf1
  obtain ⟨x1_0, x1_1, rfl⟩ : ∃ x1_0 x1_1, cs1 = [x1_0, x1_1] := by
    have hl := trod_length Try.underlying23 hf1 (n := 2) (by kernel_rfl)
    exact list2 hl
  obtain ⟨fu_1, y_2, hy_3, hw_4⟩ := trod_field Try.underlying23 hf1 hz1 0 rfl (o := 0) (n := 1) (ft := 2) rfl rfl (by kernel_rfl)
  replace hy_3 : DataW.trod enc Try.prog W 0 (fun _ => true) true fu_1 2 [x1_0] = some y_2 := hy_3
  obtain ⟨a1_0, hk1_0, hq1_0⟩ := (opn_int Try.underlying2) enc W 0 true fu_1 _ _ hy_3 hw_4
  obtain rfl := (List.cons.inj hk1_0).1
  obtain ⟨fu_5, y_6, hy_7, hw_8⟩ := trod_field Try.underlying23 hf1 hz1 1 rfl (o := 1) (n := 1) (ft := 2) rfl rfl (by kernel_rfl)
  replace hy_7 : DataW.trod enc Try.prog W 0 (fun _ => true) true fu_5 2 [x1_1] = some y_6 := hy_7
  obtain ⟨a1_1, hk1_1, hq1_1⟩ := (opn_int Try.underlying2) enc W 0 true fu_5 _ _ hy_7 hw_8
  obtain rfl := (List.cons.inj hk1_1).1
  have k2 := h2
  have lt2 : ∀ x ∈ p2, x.block < W.heap.size := by obtain ⟨m, hm⟩ := k2; exact DataW.trod_lt m _ _ _ hm
  have hz2 : ∀ m ∈ d2.weights Try.prog 23, m ≤ reachBytes := fun m hm => by
    have z := List.all_eq_true.1 hsz _ (DataW.weights_mem_each (j := 2) (t := 23) (d := d2) rfl rfl m hm)
    simpa using z
  obtain ⟨fu2, hf2⟩ := h2
  obtain ⟨cs2, rfl, hcs2⟩ := agg_cells Try.underlying23 (hval 2 23 v2 rfl rfl)
  rw [hcs2] at hf2
  obtain ⟨x2_0, x2_1, rfl⟩ : ∃ x2_0 x2_1, cs2 = [x2_0, x2_1] := by
    have hl := trod_length Try.underlying23 hf2 (n := 2) (by kernel_rfl)
    exact list2 hl
  obtain ⟨fu_9, y_10, hy_11, hw_12⟩ := trod_field Try.underlying23 hf2 hz2 0 rfl (o := 0) (n := 1) (ft := 2) rfl rfl (by kernel_rfl)
  replace hy_11 : DataW.trod enc Try.prog W 0 (fun _ => true) true fu_9 2 [x2_0] = some y_10 := hy_11
  obtain ⟨a2_0, hk2_0, hq2_0⟩ := (opn_int Try.underlying2) enc W 0 true fu_9 _ _ hy_11 hw_12
  obtain rfl := (List.cons.inj hk2_0).1
  obtain ⟨fu_13, y_14, hy_15, hw_16⟩ := trod_field Try.underlying23 hf2 hz2 1 rfl (o := 1) (n := 1) (ft := 2) rfl rfl (by kernel_rfl)
  replace hy_15 : DataW.trod enc Try.prog W 0 (fun _ => true) true fu_13 2 [x2_1] = some y_14 := hy_15
  obtain ⟨a2_1, hk2_1, hq2_1⟩ := (opn_int Try.underlying2) enc W 0 true fu_13 _ _ hy_15 hw_16
  obtain rfl := (List.cons.inj hk2_1).1
  obtain ⟨k, hp⟩ := Pure.RationalPosition a0 a1_0 a1_1 a2_0 a2_1 w0 hq1_0 hq1_1 hq2_0 hq2_1
  refine (PRationalPosition.cutroomlaw01_RationalPosition.calls k a0 a1_0 a1_1 a2_0 a2_1 true W  hp).mono fun e W' ⟨he, bel0⟩ => ?_
  have bel : Below W.heap.size W W' := bel0
  subst he
  exact ⟨_, rfl, _, _, _, [], _, [], hW', trodAll_mk1 (shut_bool Try.underlying4 _), (trodAll_cons_mk (shut_int Try.underlying2 w0) (trodAll_cons_mk (Below.trod laidOut (by kernel_rfl) (of_decide_eq_true (by kernel_rfl)) k1 bel lt1) (trodAll_cons_mk (Below.trod laidOut (by kernel_rfl) (of_decide_eq_true (by kernel_rfl)) k2 bel lt2) trodAll_mk0))), rfl, bel.frame _, fun h => by cases h⟩
theorem over : Rows.rationalPositionRow.holds Try.pinned (OpenSpec.ofChange Rows.rationalPositionSpec) :=
  OpenClaim.holds_of_wide 8 Try.f8 rfl rfl rfl rfl rfl rfl rfl ⟨rfl, rfl, rfl, rfl, rfl⟩ rfl rfl rfl rfl rfl (by kernel_rfl) Try.func8 (by kernel_rfl)
    (of_decide_eq_true (by kernel_rfl)) (by unfold Func.isWrapper; first | (rw [if_pos (by decide +kernel)]; kernel_rfl) | (rw [if_neg (by decide +kernel)]; exact ⟨rfl, rfl⟩))
    (fun os started H enc _ => lifted os started H enc)
theorem proved : Rows.RationalPositionSaid := over
#print axioms proved
end Go.Proofs.Ytifemmalcncicaa.rationalPosition
namespace Go.Proofs.Ytifemmalcncicaa
/-- The row, under a short name, for the claim. -/
theorem rationalPosition_holds : Rows.RationalPositionSaid := rationalPosition.proved
end Go.Proofs.Ytifemmalcncicaa
