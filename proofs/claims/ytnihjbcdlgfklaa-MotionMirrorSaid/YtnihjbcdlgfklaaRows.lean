/-
  No cell of these rows narrows 'for every input' (looked for: loops, veiled, ifaces, maps, wideKeys, modest, calm, conditions, laid).
  DERIVED. THE GIVEN ROWS OF THIS SEAT. 7 by the template 'for every input the law returns true; each argument reads behind the call as it read before'; 0 by the template 'total and deterministic' (their statements: YtnihjbcdlgfklaaTotals.lean).
  GIVEN WITH THE SEED: the statements are not yours to turn. If you find one false, say at which input.
  Laid BY PROGRAM, IN A SANDBOX (cutbox-rows.mjs): the forced cells as the released guide's own fill.sh prints them over the translation f98b406a1684f7c2… (all of the seat's roots in one cut). By AI agents, Wed Nov 11 2026. No macro, syntax, notation, axiom, sorry.
-/
import Derived.Test.YtnihjbcdlgfklaaChecked
import GoSem.Claim
import GoSem.ClaimJoined
import GoSem.ClaimMapViews
import Derived.JoinedTies
import Derived.KernelRfl
namespace Go.Proofs.Ytnihjbcdlgfklaa
/- THE CELL 'sum', in the pinned program and in every row, IS THE sha256 OF THE DUMP (.gsa) THAT YtnihjbcdlgfklaaProg.lean LOADS. Nothing in Lean hashes anything: it is a label: what it is worth is what the hold of that sum in a sandbox is worth. -/
noncomputable def Try.pinned : Pinned := { name := "ytnihjbcdlgfklaa", sum := "f98b406a1684f7c20364a404c2f19e2d0185b1e9798d4e25c07b62203176fb0f", checked := Try.checked }
namespace Rows
def none {H : Type} : Left H := { results := [], args := [] }

/-- 'cutroomlaw08.MotionAverage': WHATEVER THE INPUT: true; the input reads as it did. -/
def motionAverageSpec : ChangeSpec := { name := "motionAverage", fn := fun _ => fun
  | [d1, d2] => { results := [.lit (.bool true)], args := [d1, d2] }
  | _ => none }
def motionAverageRow : OpenClaim := { program := "ytnihjbcdlgfklaa", sum := "f98b406a1684f7c20364a404c2f19e2d0185b1e9798d4e25c07b62203176fb0f", func := "cutroom/cutroomlaw08.MotionAverage", spec := "motionAverage", apart := false }
def MotionAverageSaid : Prop := motionAverageRow.holds Try.pinned (OpenSpec.ofChange motionAverageSpec)

/-- ITS FALSE NEIGHBOUR: 'it returns false'. Refute it at one input. -/
def motionAverageWrong : ChangeSpec := { name := "motionAverage", fn := fun _ => fun
  | [d1, d2] => { results := [.lit (.bool false)], args := [d1, d2] }
  | _ => none }
def MotionAverageWrongFalsely : Prop := motionAverageRow.holds Try.pinned (OpenSpec.ofChange motionAverageWrong)

/-- 'cutroomlaw08.MotionPredicts': WHATEVER THE INPUT: true; the input reads as it did. -/
def motionPredictsSpec : ChangeSpec := { name := "motionPredicts", fn := fun _ => fun
  | [d1, d2] => { results := [.lit (.bool true)], args := [d1, d2] }
  | _ => none }
def motionPredictsRow : OpenClaim := { program := "ytnihjbcdlgfklaa", sum := "f98b406a1684f7c20364a404c2f19e2d0185b1e9798d4e25c07b62203176fb0f", func := "cutroom/cutroomlaw08.MotionPredicts", spec := "motionPredicts", unfollowed := true, recurses := true, apart := false }
def MotionPredictsSaid : Prop := motionPredictsRow.holds Try.pinned (OpenSpec.ofChange motionPredictsSpec)

/-- ITS FALSE NEIGHBOUR: 'it returns false'. Refute it at one input. -/
def motionPredictsWrong : ChangeSpec := { name := "motionPredicts", fn := fun _ => fun
  | [d1, d2] => { results := [.lit (.bool false)], args := [d1, d2] }
  | _ => none }
def MotionPredictsWrongFalsely : Prop := motionPredictsRow.holds Try.pinned (OpenSpec.ofChange motionPredictsWrong)

/-- 'cutroomlaw08.MotionStill': WHATEVER THE INPUT: true; the input reads as it did. -/
def motionStillSpec : ChangeSpec := { name := "motionStill", fn := fun _ => fun
  | [d1, d2, d3, d4, d5] => { results := [.lit (.bool true)], args := [d1, d2, d3, d4, d5] }
  | _ => none }
def motionStillRow : OpenClaim := { program := "ytnihjbcdlgfklaa", sum := "f98b406a1684f7c20364a404c2f19e2d0185b1e9798d4e25c07b62203176fb0f", func := "cutroom/cutroomlaw08.MotionStill", spec := "motionStill", unfollowed := true, recurses := true, apart := false }
def MotionStillSaid : Prop := motionStillRow.holds Try.pinned (OpenSpec.ofChange motionStillSpec)

/-- ITS FALSE NEIGHBOUR: 'it returns false'. Refute it at one input. -/
def motionStillWrong : ChangeSpec := { name := "motionStill", fn := fun _ => fun
  | [d1, d2, d3, d4, d5] => { results := [.lit (.bool false)], args := [d1, d2, d3, d4, d5] }
  | _ => none }
def MotionStillWrongFalsely : Prop := motionStillRow.holds Try.pinned (OpenSpec.ofChange motionStillWrong)

/-- 'cutroomlaw08.MotionBetween': WHATEVER THE INPUT: true; the input reads as it did. -/
def motionBetweenSpec : ChangeSpec := { name := "motionBetween", fn := fun _ => fun
  | [d1, d2] => { results := [.lit (.bool true)], args := [d1, d2] }
  | _ => none }
def motionBetweenRow : OpenClaim := { program := "ytnihjbcdlgfklaa", sum := "f98b406a1684f7c20364a404c2f19e2d0185b1e9798d4e25c07b62203176fb0f", func := "cutroom/cutroomlaw08.MotionBetween", spec := "motionBetween", unfollowed := true, recurses := true, apart := false }
def MotionBetweenSaid : Prop := motionBetweenRow.holds Try.pinned (OpenSpec.ofChange motionBetweenSpec)

/-- ITS FALSE NEIGHBOUR: 'it returns false'. Refute it at one input. -/
def motionBetweenWrong : ChangeSpec := { name := "motionBetween", fn := fun _ => fun
  | [d1, d2] => { results := [.lit (.bool false)], args := [d1, d2] }
  | _ => none }
def MotionBetweenWrongFalsely : Prop := motionBetweenRow.holds Try.pinned (OpenSpec.ofChange motionBetweenWrong)

/-- 'cutroomlaw08.MotionMirror': WHATEVER THE INPUT: true; the input reads as it did. -/
def motionMirrorSpec : ChangeSpec := { name := "motionMirror", fn := fun _ => fun
  | [d1, d2] => { results := [.lit (.bool true)], args := [d1, d2] }
  | _ => none }
def motionMirrorRow : OpenClaim := { program := "ytnihjbcdlgfklaa", sum := "f98b406a1684f7c20364a404c2f19e2d0185b1e9798d4e25c07b62203176fb0f", func := "cutroom/cutroomlaw08.MotionMirror", spec := "motionMirror", unfollowed := true, recurses := true, apart := false }
def MotionMirrorSaid : Prop := motionMirrorRow.holds Try.pinned (OpenSpec.ofChange motionMirrorSpec)

/-- ITS FALSE NEIGHBOUR: 'it returns false'. Refute it at one input. -/
def motionMirrorWrong : ChangeSpec := { name := "motionMirror", fn := fun _ => fun
  | [d1, d2] => { results := [.lit (.bool false)], args := [d1, d2] }
  | _ => none }
def MotionMirrorWrongFalsely : Prop := motionMirrorRow.holds Try.pinned (OpenSpec.ofChange motionMirrorWrong)

/-- 'cutroomlaw08.MotionClose': WHATEVER THE INPUT: true; the input reads as it did. -/
def motionCloseSpec : ChangeSpec := { name := "motionClose", fn := fun _ => fun
  | [d1, d2, d3] => { results := [.lit (.bool true)], args := [d1, d2, d3] }
  | _ => none }
def motionCloseRow : OpenClaim := { program := "ytnihjbcdlgfklaa", sum := "f98b406a1684f7c20364a404c2f19e2d0185b1e9798d4e25c07b62203176fb0f", func := "cutroom/cutroomlaw08.MotionClose", spec := "motionClose", unfollowed := true, recurses := true, apart := false }
def MotionCloseSaid : Prop := motionCloseRow.holds Try.pinned (OpenSpec.ofChange motionCloseSpec)

/-- ITS FALSE NEIGHBOUR: 'it returns false'. Refute it at one input. -/
def motionCloseWrong : ChangeSpec := { name := "motionClose", fn := fun _ => fun
  | [d1, d2, d3] => { results := [.lit (.bool false)], args := [d1, d2, d3] }
  | _ => none }
def MotionCloseWrongFalsely : Prop := motionCloseRow.holds Try.pinned (OpenSpec.ofChange motionCloseWrong)

/-- 'cutroomlaw08.MotionFields': WHATEVER THE INPUT: true; the input reads as it did. -/
def motionFieldsSpec : ChangeSpec := { name := "motionFields", fn := fun _ => fun
  | [d1, d2, d3, d4, d5, d6, d7] => { results := [.lit (.bool true)], args := [d1, d2, d3, d4, d5, d6, d7] }
  | _ => none }
def motionFieldsRow : OpenClaim := { program := "ytnihjbcdlgfklaa", sum := "f98b406a1684f7c20364a404c2f19e2d0185b1e9798d4e25c07b62203176fb0f", func := "cutroom/cutroomlaw08.MotionFields", spec := "motionFields", unfollowed := true, recurses := true, apart := false }
def MotionFieldsSaid : Prop := motionFieldsRow.holds Try.pinned (OpenSpec.ofChange motionFieldsSpec)

/-- ITS FALSE NEIGHBOUR: 'it returns false'. Refute it at one input. -/
def motionFieldsWrong : ChangeSpec := { name := "motionFields", fn := fun _ => fun
  | [d1, d2, d3, d4, d5, d6, d7] => { results := [.lit (.bool false)], args := [d1, d2, d3, d4, d5, d6, d7] }
  | _ => none }
def MotionFieldsWrongFalsely : Prop := motionFieldsRow.holds Try.pinned (OpenSpec.ofChange motionFieldsWrong)

/- THE SECOND FORM. 'bulk': how many values and letters a reading holds, each counted each time it is reached (what is shared counts as often as it is met; a slice's spare places count too). A statement '..UptoSaid' is the law's where the arguments, and the package variables that the reading takes, are together of bulk at most 1048576: NARROWER than '..Said'. Prove '..Said' where nothing that the law and all that it calls make is longer than what came in: it says more and counts as full. Else prove '..UptoSaid'. A law counts once. -/
mutual
def uptoBulk {H : Type} : DataW H → Nat
  | .lit (.string bytes) => bytes.length + 1
  | .lit _ => 1
  | .nil => 1
  | .ptr d => uptoBulk d + 1
  | .slice elems spare => uptoBulkAll elems + uptoBulkAll spare + 1
  | .agg parts => uptoBulkAll parts + 1
  | .iface _ d => uptoBulk d + 1
  | .map entries => uptoBulkEntries entries + 1
  | .held _ => 1
def uptoBulkAll {H : Type} : List (DataW H) → Nat
  | [] => 0
  | d :: r => uptoBulk d + uptoBulkAll r
def uptoBulkEntries {H : Type} : List (Lit × DataW H) → Nat
  | [] => 0
  | x :: r => uptoBulkEntry x + uptoBulkEntries r
def uptoBulkEntry {H : Type} : Lit × DataW H → Nat
  | (.string bytes, d) => bytes.length + uptoBulk d + 1
  | (_, d) => uptoBulk d + 1
 end
def uptoSmall : (H : Type) → List (DataW H) → Bool := fun _ ds => decide (uptoBulkAll ds ≤ 1048576)
def OpenSpec.upto (s : _root_.Go.ChangeSpec) : _root_.Go.OpenSpec := { _root_.Go.OpenSpec.ofChange s with cond := some uptoSmall }

/-- 'cutroomlaw08.MotionAverage', WHERE WHAT IT READS IS OF BULK AT MOST 1048576: true; the input reads as it did. -/
def motionAverageUptoRow : OpenClaim := { program := "ytnihjbcdlgfklaa", sum := "f98b406a1684f7c20364a404c2f19e2d0185b1e9798d4e25c07b62203176fb0f", func := "cutroom/cutroomlaw08.MotionAverage", spec := "motionAverage", apart := false, narrowed := true }
def MotionAverageUptoSaid : Prop := motionAverageUptoRow.holds Try.pinned (OpenSpec.upto motionAverageSpec)

/-- 'cutroomlaw08.MotionPredicts', WHERE WHAT IT READS IS OF BULK AT MOST 1048576: true; the input reads as it did. -/
def motionPredictsUptoRow : OpenClaim := { program := "ytnihjbcdlgfklaa", sum := "f98b406a1684f7c20364a404c2f19e2d0185b1e9798d4e25c07b62203176fb0f", func := "cutroom/cutroomlaw08.MotionPredicts", spec := "motionPredicts", unfollowed := true, recurses := true, apart := false, narrowed := true }
def MotionPredictsUptoSaid : Prop := motionPredictsUptoRow.holds Try.pinned (OpenSpec.upto motionPredictsSpec)

/-- 'cutroomlaw08.MotionStill', WHERE WHAT IT READS IS OF BULK AT MOST 1048576: true; the input reads as it did. -/
def motionStillUptoRow : OpenClaim := { program := "ytnihjbcdlgfklaa", sum := "f98b406a1684f7c20364a404c2f19e2d0185b1e9798d4e25c07b62203176fb0f", func := "cutroom/cutroomlaw08.MotionStill", spec := "motionStill", unfollowed := true, recurses := true, apart := false, narrowed := true }
def MotionStillUptoSaid : Prop := motionStillUptoRow.holds Try.pinned (OpenSpec.upto motionStillSpec)

/-- 'cutroomlaw08.MotionBetween', WHERE WHAT IT READS IS OF BULK AT MOST 1048576: true; the input reads as it did. -/
def motionBetweenUptoRow : OpenClaim := { program := "ytnihjbcdlgfklaa", sum := "f98b406a1684f7c20364a404c2f19e2d0185b1e9798d4e25c07b62203176fb0f", func := "cutroom/cutroomlaw08.MotionBetween", spec := "motionBetween", unfollowed := true, recurses := true, apart := false, narrowed := true }
def MotionBetweenUptoSaid : Prop := motionBetweenUptoRow.holds Try.pinned (OpenSpec.upto motionBetweenSpec)

/-- 'cutroomlaw08.MotionMirror', WHERE WHAT IT READS IS OF BULK AT MOST 1048576: true; the input reads as it did. -/
def motionMirrorUptoRow : OpenClaim := { program := "ytnihjbcdlgfklaa", sum := "f98b406a1684f7c20364a404c2f19e2d0185b1e9798d4e25c07b62203176fb0f", func := "cutroom/cutroomlaw08.MotionMirror", spec := "motionMirror", unfollowed := true, recurses := true, apart := false, narrowed := true }
def MotionMirrorUptoSaid : Prop := motionMirrorUptoRow.holds Try.pinned (OpenSpec.upto motionMirrorSpec)

/-- 'cutroomlaw08.MotionClose', WHERE WHAT IT READS IS OF BULK AT MOST 1048576: true; the input reads as it did. -/
def motionCloseUptoRow : OpenClaim := { program := "ytnihjbcdlgfklaa", sum := "f98b406a1684f7c20364a404c2f19e2d0185b1e9798d4e25c07b62203176fb0f", func := "cutroom/cutroomlaw08.MotionClose", spec := "motionClose", unfollowed := true, recurses := true, apart := false, narrowed := true }
def MotionCloseUptoSaid : Prop := motionCloseUptoRow.holds Try.pinned (OpenSpec.upto motionCloseSpec)

/-- 'cutroomlaw08.MotionFields', WHERE WHAT IT READS IS OF BULK AT MOST 1048576: true; the input reads as it did. -/
def motionFieldsUptoRow : OpenClaim := { program := "ytnihjbcdlgfklaa", sum := "f98b406a1684f7c20364a404c2f19e2d0185b1e9798d4e25c07b62203176fb0f", func := "cutroom/cutroomlaw08.MotionFields", spec := "motionFields", unfollowed := true, recurses := true, apart := false, narrowed := true }
def MotionFieldsUptoSaid : Prop := motionFieldsUptoRow.holds Try.pinned (OpenSpec.upto motionFieldsSpec)

end Rows
end Go.Proofs.Ytnihjbcdlgfklaa
