/- The abstract form of this seat's program. -/
import Derived.Test.YtalnnbokmpppjaaAbCall
import Derived.Test.YtalnnbokmpppjaaProg
namespace Go.Proofs.YtalnnbokmpppjaaAb
open Go Go.RowKit
set_option linter.unusedVariables false
def resOf (tw : List (Nat × Nat)) (P : Program) (f : Nat) : Option Nat :=
  match P.funcs[f]? with
  | some fn => if fn.body.isSome && !(fn.name == "runtime.NumGoroutine") then some f else (tw.find? fun q => q.1 == f).map (·.2)
  | none => none
def irOf (tw : List (Nat × Nat)) (P : Program) (f : Nat) : Option F :=
  (P.funcs[f]?).bind fun fn => if fn.name == "runtime.NumGoroutine" then none else cF P (resOf tw P) fn
theorem good_of {P : Program} (tw : List (Nat × Nat)) (hm : P.follows .mixedOrders = true) (ht : ∀ q ∈ tw, ∀ args w, (callFunc q.1 args).run P w = .ok (.enter q.2 args) w) : Good P (resOf tw P) (irOf tw P) := by
  have ent : ∀ f fn, P.funcs[f]? = some fn → fn.body.isSome = true → (fn.name == "runtime.NumGoroutine") = false → ∀ args w, (callFunc f args).run P w = .ok (.enter f args) w := fun f fn hf hb hn args w => by
    simp only [callFunc, Sem.run_bind, run_program, Result.andThen_ok, hf, hn]
    cases hbb : fn.body with
    | none => rw [hbb] at hb; cases hb
    | some b => simp
  refine ⟨hm, fun f F h => ?_, fun f g h args w => ?_, fun f F h args w => ?_⟩
  · unfold irOf at h
    obtain ⟨fn, hf, h⟩ := Option.bind_eq_some_iff.1 h
    split at h
    · cases h
    · exact ⟨fn, hf, h⟩
  · unfold resOf at h
    split at h
    · rename_i fn hf
      split at h
      · rename_i hb
        cases h
        simp only [Bool.and_eq_true, Bool.not_eq_true'] at hb
        exact ent f fn hf hb.1 hb.2 args w
      · obtain ⟨q, hq, rfl⟩ := Option.map_eq_some_iff.1 h
        have h1 := List.mem_of_find?_eq_some hq
        have h2 := List.find?_some hq
        have : q.1 = f := by simpa using h2
        rw [← this]
        exact ht q h1 args w
    · cases h
  · unfold irOf at h
    obtain ⟨fn, hf, h⟩ := Option.bind_eq_some_iff.1 h
    split at h
    · cases h
    · rename_i hn
      unfold cF at h
      obtain ⟨b, hb, _⟩ := Option.bind_eq_some_iff.1 h
      exact ent f fn hf (by rw [hb]; rfl) (by simpa using hn) args w
end Go.Proofs.YtalnnbokmpppjaaAb
