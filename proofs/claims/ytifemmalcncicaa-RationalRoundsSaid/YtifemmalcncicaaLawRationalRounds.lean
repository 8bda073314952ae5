/- The law cutroomlaw01.RationalRounds: for every input it returns true, and what came in reads as it did; no condition. -/
import Derived.Test.YtifemmalcncicaaRows
import Derived.Test.YtifemmalcncicaaPRationalRoundsx3
import Derived.Test.YtifemmalcncicaaPureRationalRounds
import Derived.Test.YtifemmalcncicaaOpen
import Derived.WalkKit
import Derived.ProofKit
import Derived.OpenShut
import Derived.ShutString
import Derived.ChangeOld
import Derived.Below
import Derived.SizedLaws
import Derived.Carry
namespace Go.Proofs.Ytifemmalcncicaa.rationalRounds
open Go.ChangeShapes Go.WideShapes Go.ChangeAt Go.RowKit Go.Proofs.Ytifemmalcncicaa.Opens Go.Proofs.YtifemmalcncicaaW.PrintWords
open Go.ChangeMaps (open_string shut_string)
set_option linter.unusedVariables false
theorem own : ownKnob Try.prog.godebug = none := by kernel_rfl
theorem laidOut : laidOutB Try.prog = true := by kernel_rfl
theorem list2 {cs : List Value} (h : cs.length = 2) : ∃ x0 x1, cs = [x0, x1] := by
  match cs, h with
  | [x0, x1], _ => exact ⟨x0, x1, rfl⟩
set_option maxRecDepth 100000 in
set_option maxHeartbeats 4000000 in
theorem lifted (os : Os) (started : os.Started) (H : Type) (enc : TypeId × Value → H) :
    ReturnsInHanded {} Try.checked os 5 .any (Rows.rationalRoundsSpec.pre6 enc Try.prog Try.f5 Rows.rationalRoundsRow.domain false) (Rows.rationalRoundsSpec.post enc Try.prog Try.f5 false true false false) := by
  refine returnsInHanded_of_change_sized (C := Try.checked) own started (by kernel_rfl) Try.func5
    (ChangeSpec.witness6 (enc := enc) (C := Try.checked) false ⟨#[], #[.agg #[.int .i64 0, .int .i64 0]], []⟩ 8 (by kernel_rfl) (by kernel_rfl) (by kernel_rfl) (by kernel_rfl)) ?_
  intro W base args ds gs before hval0 hW hcnd hsz0 _
  have hsz : (DataW.weightsEach Try.prog (Try.f5.params.toList ++ Rows.rationalRoundsSpec.plain.varTypes Try.prog) (ds ++ gs)).all (· ≤ reachBytes) = true := hsz0
  have hval : ∀ (j : Nat) t v, Try.f5.params[j]? = some t → args[j]? = some v → Value.okWide Try.prog W .any base t v := hval0
  have hW' := hW
  obtain ⟨p, q, hA0, hV, rfl, hfz, hnd⟩ := hW
  have hA : DataW.TrodAll enc Try.prog W 0 (fun _ => true) true Try.f5.params.toList args.toList ds p := hA0
  rw [Try.params5] at hA hval hsz
  obtain ⟨v0, vs0, d0, ds0, p0, q0, hargs, rfl, rfl, h0, r0⟩ := trodAll_cons hA
  obtain ⟨rfl, rfl, rfl⟩ := trodAll_nil r0
  obtain rfl : args = #[v0] := by cases args; simp_all
  obtain ⟨rfl, rfl⟩ := trodVars_none hV
  have k0 := h0
  have lt0 : ∀ x ∈ p0, x.block < W.heap.size := by obtain ⟨m, hm⟩ := k0; exact DataW.trod_lt m _ _ _ hm
  have hz0 : ∀ m ∈ d0.weights Try.prog 23, m ≤ reachBytes := fun m hm => by
    have z := List.all_eq_true.1 hsz _ (DataW.weights_mem_each (j := 0) (t := 23) (d := d0) rfl rfl m hm)
    simpa using z
  obtain ⟨fu0, hf0⟩ := h0
  obtain ⟨cs0, rfl, hcs0⟩ := agg_cells Try.underlying23 (hval 0 23 v0 rfl rfl)
  rw [hcs0] at hf0
  obtain ⟨x0_0, x0_1, rfl⟩ : ∃ x0_0 x0_1, cs0 = [x0_0, x0_1] := by
    have hl := trod_length Try.underlying23 hf0 (n := 2) (by kernel_rfl)
    exact list2 hl
  obtain ⟨fu_1, y_2, hy_3, hw_4⟩ := trod_field Try.underlying23 hf0 hz0 0 rfl (o := 0) (n := 1) (ft := 2) rfl rfl (by kernel_rfl)
  replace hy_3 : DataW.trod enc Try.prog W 0 (fun _ => true) true fu_1 2 [x0_0] = some y_2 := hy_3
  obtain ⟨a0_0, hk0_0, hq0_0⟩ := (opn_int Try.underlying2) enc W 0 true fu_1 _ _ hy_3 hw_4
  obtain rfl := (List.cons.inj hk0_0).1
  obtain ⟨fu_5, y_6, hy_7, hw_8⟩ := trod_field Try.underlying23 hf0 hz0 1 rfl (o := 1) (n := 1) (ft := 2) rfl rfl (by kernel_rfl)
  replace hy_7 : DataW.trod enc Try.prog W 0 (fun _ => true) true fu_5 2 [x0_1] = some y_6 := hy_7
  obtain ⟨a0_1, hk0_1, hq0_1⟩ := (opn_int Try.underlying2) enc W 0 true fu_5 _ _ hy_7 hw_8
  obtain rfl := (List.cons.inj hk0_1).1
  obtain ⟨k, hp⟩ := Pure.RationalRounds a0_0 a0_1 hq0_0 hq0_1
  refine (PRationalRounds.cutroomlaw01_RationalRounds.calls k a0_0 a0_1 true W  hp).mono fun e W' ⟨he, bel0⟩ => ?_
  have bel : Below W.heap.size W W' := bel0
  subst he
  exact ⟨_, rfl, _, _, _, [], _, [], hW', trodAll_mk1 (shut_bool Try.underlying4 _), (trodAll_cons_mk (Below.trod laidOut (by kernel_rfl) (of_decide_eq_true (by kernel_rfl)) k0 bel lt0) trodAll_mk0), rfl, bel.frame _, fun h => by cases h⟩
theorem over : Rows.rationalRoundsRow.holds Try.pinned (OpenSpec.ofChange Rows.rationalRoundsSpec) :=
  OpenClaim.holds_of_wide 5 Try.f5 rfl rfl rfl rfl rfl rfl rfl ⟨rfl, rfl, rfl, rfl, rfl⟩ rfl rfl rfl rfl rfl (by kernel_rfl) Try.func5 (by kernel_rfl)
    (of_decide_eq_true (by kernel_rfl)) (by unfold Func.isWrapper; first | (rw [if_pos (by decide +kernel)]; kernel_rfl) | (rw [if_neg (by decide +kernel)]; exact ⟨rfl, rfl⟩))
    (fun os started H enc _ => lifted os started H enc)
theorem proved : Rows.RationalRoundsSaid := over
#print axioms proved
end Go.Proofs.Ytifemmalcncicaa.rationalRounds
namespace Go.Proofs.Ytifemmalcncicaa
/-- The row, under a short name, for the claim. -/
theorem rationalRounds_holds : Rows.RationalRoundsSaid := rationalRounds.proved
end Go.Proofs.Ytifemmalcncicaa
