/- The law cutroomlaw07.PlaneFields: for every input it returns true, and what came in reads as it did; no condition. -/
import Derived.Test.YtalnnbokmpppjaaRows
import Derived.Test.YtalnnbokmpppjaaFmOpen
import Derived.Test.YtalnnbokmpppjaaPfL
import Derived.WalkKit
import Derived.ProofKit
import Derived.OpenShut
import Derived.ShutString
import Derived.ChangeOld
import Derived.Below
import Derived.SizedLaws
import Derived.Carry
namespace Go.Proofs.Ytalnnbokmpppjaa.planeFields
open Go.ChangeShapes Go.WideShapes Go.ChangeAt Go.RowKit Go.Proofs.YtalnnbokmpppjaaAb
open Go.ChangeMaps (open_string shut_string)
set_option linter.unusedVariables false
theorem own : ownKnob Try.prog.godebug = none := by kernel_rfl
theorem laidOut : laidOutB Try.prog = true := by kernel_rfl
def tys : List TypeId := [24, 3, 22, 5]
theorem okS : ∀ t ∈ tys, okT Try.prog tys t = true := List.all_eq_true.1 (by kernel_rfl)
set_option maxRecDepth 100000 in
set_option maxHeartbeats 4000000 in
theorem lifted (os : Os) (started : os.Started) (H : Type) (enc : TypeId × Value → H) :
    ReturnsInHanded {} Try.checked os 7 .any (Rows.planeFieldsSpec.pre6 enc Try.prog Try.f7 Rows.planeFieldsRow.domain false) (Rows.planeFieldsSpec.post enc Try.prog Try.f7 false true false false) := by
  refine returnsInHanded_of_change_sized (C := Try.checked) own started (by kernel_rfl) Try.func7
    (ChangeSpec.witness6 (enc := enc) (C := Try.checked) false ⟨#[], #[.agg #[.int .i64 0, .int .i64 0, .slice none 0 0, .slice none 0 0, .slice none 0 0], .int .i64 0], []⟩ 8 (by kernel_rfl) (by kernel_rfl) (by kernel_rfl) (by kernel_rfl)) ?_
  intro W base args ds gs before hval0 hW hcnd hsz0 _
  have hsz : (DataW.weightsEach Try.prog (Try.f7.params.toList ++ Rows.planeFieldsSpec.plain.varTypes Try.prog) (ds ++ gs)).all (· ≤ reachBytes) = true := hsz0
  have hval : ∀ (j : Nat) t v, Try.f7.params[j]? = some t → args[j]? = some v → Value.okWide Try.prog W .any base t v := hval0
  have hW' := hW
  obtain ⟨p, q, hA0, hV, rfl, hfz, hnd⟩ := hW
  have hA : DataW.TrodAll enc Try.prog W 0 (fun _ => true) true Try.f7.params.toList args.toList ds p := hA0
  rw [Try.params7] at hA hval hsz
  obtain ⟨v0, vs0, d0, ds0, p0, q0, hargs, rfl, rfl, h0, r0⟩ := trodAll_cons hA
  obtain ⟨v1, vs1, d1, ds1, p1, q1, rfl, rfl, rfl, h1, r1⟩ := trodAll_cons r0
  obtain ⟨rfl, rfl, rfl⟩ := trodAll_nil r1
  obtain rfl : args = #[v0, v1] := by cases args; simp_all
  obtain ⟨rfl, rfl⟩ := trodVars_none hV
  have k0 := h0
  have lt0 : ∀ x ∈ p0, x.block < W.heap.size := by obtain ⟨m, hm⟩ := k0; exact DataW.trod_lt m _ _ _ hm
  have hz0 : ∀ m ∈ d0.weights Try.prog 24, m ≤ reachBytes := fun m hm => by
    have z := List.all_eq_true.1 hsz _ (DataW.weights_mem_each (j := 0) (t := 24) (d := d0) rfl rfl m hm)
    simpa using z
  obtain ⟨fu0, hf0⟩ := h0
  obtain ⟨cs0, rfl, hcs0⟩ := agg_cells Try.underlying24 (hval 0 24 v0 rfl rfl)
  rw [hcs0] at hf0
  obtain ⟨c0, x0, vf0, vr0, tt0⟩ := arg2 (open_tree okS fu0 24 _ _ (by decide) hf0 hz0)
  have k1 := h1
  have lt1 : ∀ x ∈ p1, x.block < W.heap.size := by obtain ⟨m, hm⟩ := k1; exact DataW.trod_lt m _ _ _ hm
  have hz1 : ∀ m ∈ d1.weights Try.prog 3, m ≤ reachBytes := fun m hm => by
    have z := List.all_eq_true.1 hsz _ (DataW.weights_mem_each (j := 1) (t := 3) (d := d1) rfl rfl m hm)
    simpa using z
  obtain ⟨fu1, hf1⟩ := h1
  obtain ⟨n1, rfl⟩ := okWide_int Try.underlying3 (hval 1 3 v1 rfl rfl)
  replace hf1 : DataW.trod enc Try.prog W 0 (fun _ => true) true fu1 3 [_] = some (d1, p1) := hf1
  obtain ⟨c1, x1, vf1, vr1, tt1⟩ := arg1 (open_tree okS fu1 3 _ _ (by decide) hf1 hz1)
  refine (law_calls good irOf_okR (lawPlaneFields tt0 tt1) (args := #[_, _]) (PW.cons vf0 (PW.cons vf1 PW.nil)) (VRL.cons vr0 (VRL.cons vr1 (VRL.nil _)))).mono fun e W' ⟨he, bel⟩ => ?_
  subst he
  exact ⟨_, rfl, _, _, _, [], _, [], hW', trodAll_mk1 (shut_bool Try.underlying4 _), (trodAll_cons_mk (Below.trod laidOut (by kernel_rfl) (of_decide_eq_true (by kernel_rfl)) k0 bel lt0) (trodAll_cons_mk (Below.trod laidOut (by kernel_rfl) (of_decide_eq_true (by kernel_rfl)) k1 bel lt1) trodAll_mk0)), rfl, bel.frame _, fun h => by cases h⟩
theorem over : Rows.planeFieldsRow.holds Try.pinned (OpenSpec.ofChange Rows.planeFieldsSpec) :=
  OpenClaim.holds_of_wide 7 Try.f7 rfl rfl rfl rfl rfl rfl rfl ⟨rfl, rfl, rfl, rfl, rfl⟩ rfl rfl rfl rfl rfl (by kernel_rfl) Try.func7 (by kernel_rfl)
    (of_decide_eq_true (by kernel_rfl)) (by unfold Func.isWrapper; first | (rw [if_pos (by decide +kernel)]; kernel_rfl) | (rw [if_neg (by decide +kernel)]; exact ⟨rfl, rfl⟩))
    (fun os started H enc _ => lifted os started H enc)
theorem proved : Rows.PlaneFieldsSaid := over
#print axioms proved
end Go.Proofs.Ytalnnbokmpppjaa.planeFields
namespace Go.Proofs.Ytalnnbokmpppjaa
/-- The row, under a short name, for the claim. -/
theorem planeFields_holds : Rows.PlaneFieldsSaid := planeFields.proved
end Go.Proofs.Ytalnnbokmpppjaa
