/- The seat's program: its regions in an open order are well ordered. -/
import Derived.Test.YtalnnbokmpppjaaAbProg
import Derived.Test.YtalnnbokmpppjaaFmRules
namespace Go.Proofs.YtalnnbokmpppjaaAb
open Go Go.RowKit
set_option linter.unusedVariables false
theorem cC_okR {P : Program} {res : Nat → Option Nat} {nt : Nat} : ∀ (code : Code) (c : C), cC P res nt code = some c → c.okR = true
  | .skip, c, h => by cases h; rfl
  | .region _ ops draw, c, h => by
    simp only [cC] at h
    obtain ⟨os, ho, rfl⟩ := Option.map_eq_some_iff.1 h
    cases draw with
    | false => rfl
    | true => exact ((cReg_spec ho).2.2 rfl).1
  | .seq a b, c, h => by
    simp only [cC] at h
    obtain ⟨x, hx, h⟩ := Option.bind_eq_some_iff.1 h
    obtain ⟨y, hy, rfl⟩ := Option.map_eq_some_iff.1 h
    simp only [C.okR, cC_okR a x hx, cC_okR b y hy, Bool.and_self]
  | .cond o a b, c, h => by
    simp only [cC] at h
    obtain ⟨x, hx, h⟩ := Option.bind_eq_some_iff.1 h
    obtain ⟨y, hy, h⟩ := Option.bind_eq_some_iff.1 h
    obtain ⟨z, hz, rfl⟩ := Option.map_eq_some_iff.1 h
    simp only [C.okR, cC_okR a y hy, cC_okR b z hz, Bool.and_self]
  | .block id a, c, h => by
    simp only [cC] at h
    obtain ⟨x, hx, rfl⟩ := Option.map_eq_some_iff.1 h
    exact cC_okR a x hx
  | .loop a, c, h => by
    simp only [cC] at h
    obtain ⟨x, hx, rfl⟩ := Option.map_eq_some_iff.1 h
    exact cC_okR a x hx
  | .exit id, c, h => by cases h; rfl
  | .ret, c, h => by cases h; rfl
  | .goto _, c, h => by cases h; rfl
  | .rangeFunc .., c, h => by cases h; rfl
  | .scope .., c, h => by cases h; rfl
  | .label .., c, h => by cases h; rfl
  | .refuse .., c, h => by cases h; rfl
theorem irOf_okR {tw : List (Nat × Nat)} {P : Program} (f : Nat) (F : F) (h : irOf tw P f = some F) : F.body.okR = true := by
  unfold irOf at h
  obtain ⟨fn, _, h⟩ := Option.bind_eq_some_iff.1 h
  split at h
  · cases h
  · unfold cF at h
    obtain ⟨b, _, h⟩ := Option.bind_eq_some_iff.1 h
    obtain ⟨c, hc, h⟩ := Option.bind_eq_some_iff.1 h
    obtain ⟨rs, _, h⟩ := Option.bind_eq_some_iff.1 h
    split at h <;> cases h
    exact cC_okR b c hc
end Go.Proofs.YtalnnbokmpppjaaAb
