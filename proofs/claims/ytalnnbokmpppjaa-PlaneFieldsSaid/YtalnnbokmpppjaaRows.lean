/-
  No cell of these rows narrows 'for every input' (looked for: loops, veiled, ifaces, maps, wideKeys, modest, calm, conditions, laid).
  DERIVED. THE GIVEN ROWS OF THIS SEAT. 10 by the template 'for every input the law returns true; each argument reads behind the call as it read before'; 0 by the template 'total and deterministic' (their statements: YtalnnbokmpppjaaTotals.lean).
  GIVEN WITH THE SEED: the statements are not yours to turn. If you find one false, say at which input.
  Laid BY PROGRAM, IN A SANDBOX (cutbox-rows.mjs): the forced cells as the released guide's own fill.sh prints them over the translation 72634b0d72ce8ead… (all of the seat's roots in one cut). By AI agents, Wed Nov 11 2026. No macro, syntax, notation, axiom, sorry.
-/
import Derived.Test.YtalnnbokmpppjaaChecked
import GoSem.Claim
import GoSem.ClaimJoined
import GoSem.ClaimMapViews
import Derived.JoinedTies
import Derived.KernelRfl
namespace Go.Proofs.Ytalnnbokmpppjaa
/- THE CELL 'sum', in the pinned program and in every row, IS THE sha256 OF THE DUMP (.gsa) THAT YtalnnbokmpppjaaProg.lean LOADS. Nothing in Lean hashes anything: it is a label: what it is worth is what the hold of that sum in a sandbox is worth. -/
noncomputable def Try.pinned : Pinned := { name := "ytalnnbokmpppjaa", sum := "72634b0d72ce8eade8a9e78bbb0f0601ffdc0c872880eecfcfd0303d54dd7488", checked := Try.checked }
namespace Rows
def none {H : Type} : Left H := { results := [], args := [] }

/-- 'cutroomlaw07.PlaneFormed': WHATEVER THE INPUT: true; the input reads as it did. -/
def planeFormedSpec : ChangeSpec := { name := "planeFormed", fn := fun _ => fun
  | [d] => { results := [.lit (.bool true)], args := [d] }
  | _ => none }
def planeFormedRow : OpenClaim := { program := "ytalnnbokmpppjaa", sum := "72634b0d72ce8eade8a9e78bbb0f0601ffdc0c872880eecfcfd0303d54dd7488", func := "cutroom/cutroomlaw07.PlaneFormed", spec := "planeFormed", apart := false }
def PlaneFormedSaid : Prop := planeFormedRow.holds Try.pinned (OpenSpec.ofChange planeFormedSpec)

/-- ITS FALSE NEIGHBOUR: 'it returns false'. Refute it at one input. -/
def planeFormedWrong : ChangeSpec := { name := "planeFormed", fn := fun _ => fun
  | [d] => { results := [.lit (.bool false)], args := [d] }
  | _ => none }
def PlaneFormedWrongFalsely : Prop := planeFormedRow.holds Try.pinned (OpenSpec.ofChange planeFormedWrong)

/-- 'cutroomlaw07.PlaneFlat': WHATEVER THE INPUT: true; the input reads as it did. -/
def planeFlatSpec : ChangeSpec := { name := "planeFlat", fn := fun _ => fun
  | [d1, d2, d3, d4, d5] => { results := [.lit (.bool true)], args := [d1, d2, d3, d4, d5] }
  | _ => none }
def planeFlatRow : OpenClaim := { program := "ytalnnbokmpppjaa", sum := "72634b0d72ce8eade8a9e78bbb0f0601ffdc0c872880eecfcfd0303d54dd7488", func := "cutroom/cutroomlaw07.PlaneFlat", spec := "planeFlat", apart := false }
def PlaneFlatSaid : Prop := planeFlatRow.holds Try.pinned (OpenSpec.ofChange planeFlatSpec)

/-- ITS FALSE NEIGHBOUR: 'it returns false'. Refute it at one input. -/
def planeFlatWrong : ChangeSpec := { name := "planeFlat", fn := fun _ => fun
  | [d1, d2, d3, d4, d5] => { results := [.lit (.bool false)], args := [d1, d2, d3, d4, d5] }
  | _ => none }
def PlaneFlatWrongFalsely : Prop := planeFlatRow.holds Try.pinned (OpenSpec.ofChange planeFlatWrong)

/-- 'cutroomlaw07.PlaneDistance': WHATEVER THE INPUT: true; the input reads as it did. -/
def planeDistanceSpec : ChangeSpec := { name := "planeDistance", fn := fun _ => fun
  | [d1, d2] => { results := [.lit (.bool true)], args := [d1, d2] }
  | _ => none }
def planeDistanceRow : OpenClaim := { program := "ytalnnbokmpppjaa", sum := "72634b0d72ce8eade8a9e78bbb0f0601ffdc0c872880eecfcfd0303d54dd7488", func := "cutroom/cutroomlaw07.PlaneDistance", spec := "planeDistance", apart := false }
def PlaneDistanceSaid : Prop := planeDistanceRow.holds Try.pinned (OpenSpec.ofChange planeDistanceSpec)

/-- ITS FALSE NEIGHBOUR: 'it returns false'. Refute it at one input. -/
def planeDistanceWrong : ChangeSpec := { name := "planeDistance", fn := fun _ => fun
  | [d1, d2] => { results := [.lit (.bool false)], args := [d1, d2] }
  | _ => none }
def PlaneDistanceWrongFalsely : Prop := planeDistanceRow.holds Try.pinned (OpenSpec.ofChange planeDistanceWrong)

/-- 'cutroomlaw07.PlaneMetric': WHATEVER THE INPUT: true; the input reads as it did. -/
def planeMetricSpec : ChangeSpec := { name := "planeMetric", fn := fun _ => fun
  | [d1, d2, d3] => { results := [.lit (.bool true)], args := [d1, d2, d3] }
  | _ => none }
def planeMetricRow : OpenClaim := { program := "ytalnnbokmpppjaa", sum := "72634b0d72ce8eade8a9e78bbb0f0601ffdc0c872880eecfcfd0303d54dd7488", func := "cutroom/cutroomlaw07.PlaneMetric", spec := "planeMetric", apart := false }
def PlaneMetricSaid : Prop := planeMetricRow.holds Try.pinned (OpenSpec.ofChange planeMetricSpec)

/-- ITS FALSE NEIGHBOUR: 'it returns false'. Refute it at one input. -/
def planeMetricWrong : ChangeSpec := { name := "planeMetric", fn := fun _ => fun
  | [d1, d2, d3] => { results := [.lit (.bool false)], args := [d1, d2, d3] }
  | _ => none }
def PlaneMetricWrongFalsely : Prop := planeMetricRow.holds Try.pinned (OpenSpec.ofChange planeMetricWrong)

/-- 'cutroomlaw07.PlaneFields': WHATEVER THE INPUT: true; the input reads as it did. -/
def planeFieldsSpec : ChangeSpec := { name := "planeFields", fn := fun _ => fun
  | [d1, d2] => { results := [.lit (.bool true)], args := [d1, d2] }
  | _ => none }
def planeFieldsRow : OpenClaim := { program := "ytalnnbokmpppjaa", sum := "72634b0d72ce8eade8a9e78bbb0f0601ffdc0c872880eecfcfd0303d54dd7488", func := "cutroom/cutroomlaw07.PlaneFields", spec := "planeFields", apart := false }
def PlaneFieldsSaid : Prop := planeFieldsRow.holds Try.pinned (OpenSpec.ofChange planeFieldsSpec)

/-- ITS FALSE NEIGHBOUR: 'it returns false'. Refute it at one input. -/
def planeFieldsWrong : ChangeSpec := { name := "planeFields", fn := fun _ => fun
  | [d1, d2] => { results := [.lit (.bool false)], args := [d1, d2] }
  | _ => none }
def PlaneFieldsWrongFalsely : Prop := planeFieldsRow.holds Try.pinned (OpenSpec.ofChange planeFieldsWrong)

/-- 'cutroomlaw07.PlaneWeave': WHATEVER THE INPUT: true; the input reads as it did. -/
def planeWeaveSpec : ChangeSpec := { name := "planeWeave", fn := fun _ => fun
  | [d1, d2] => { results := [.lit (.bool true)], args := [d1, d2] }
  | _ => none }
def planeWeaveRow : OpenClaim := { program := "ytalnnbokmpppjaa", sum := "72634b0d72ce8eade8a9e78bbb0f0601ffdc0c872880eecfcfd0303d54dd7488", func := "cutroom/cutroomlaw07.PlaneWeave", spec := "planeWeave", apart := false }
def PlaneWeaveSaid : Prop := planeWeaveRow.holds Try.pinned (OpenSpec.ofChange planeWeaveSpec)

/-- ITS FALSE NEIGHBOUR: 'it returns false'. Refute it at one input. -/
def planeWeaveWrong : ChangeSpec := { name := "planeWeave", fn := fun _ => fun
  | [d1, d2] => { results := [.lit (.bool false)], args := [d1, d2] }
  | _ => none }
def PlaneWeaveWrongFalsely : Prop := planeWeaveRow.holds Try.pinned (OpenSpec.ofChange planeWeaveWrong)

/-- 'cutroomlaw07.PlaneBlocks': WHATEVER THE INPUT: true; the input reads as it did. -/
def planeBlocksSpec : ChangeSpec := { name := "planeBlocks", fn := fun _ => fun
  | [d1, d2] => { results := [.lit (.bool true)], args := [d1, d2] }
  | _ => none }
def planeBlocksRow : OpenClaim := { program := "ytalnnbokmpppjaa", sum := "72634b0d72ce8eade8a9e78bbb0f0601ffdc0c872880eecfcfd0303d54dd7488", func := "cutroom/cutroomlaw07.PlaneBlocks", spec := "planeBlocks", apart := false }
def PlaneBlocksSaid : Prop := planeBlocksRow.holds Try.pinned (OpenSpec.ofChange planeBlocksSpec)

/-- ITS FALSE NEIGHBOUR: 'it returns false'. Refute it at one input. -/
def planeBlocksWrong : ChangeSpec := { name := "planeBlocks", fn := fun _ => fun
  | [d1, d2] => { results := [.lit (.bool false)], args := [d1, d2] }
  | _ => none }
def PlaneBlocksWrongFalsely : Prop := planeBlocksRow.holds Try.pinned (OpenSpec.ofChange planeBlocksWrong)

/-- 'cutroomlaw07.PlaneSets': WHATEVER THE INPUT: true; the input reads as it did. -/
def planeSetsSpec : ChangeSpec := { name := "planeSets", fn := fun _ => fun
  | [d1, d2, d3] => { results := [.lit (.bool true)], args := [d1, d2, d3] }
  | _ => none }
def planeSetsRow : OpenClaim := { program := "ytalnnbokmpppjaa", sum := "72634b0d72ce8eade8a9e78bbb0f0601ffdc0c872880eecfcfd0303d54dd7488", func := "cutroom/cutroomlaw07.PlaneSets", spec := "planeSets", apart := false }
def PlaneSetsSaid : Prop := planeSetsRow.holds Try.pinned (OpenSpec.ofChange planeSetsSpec)

/-- ITS FALSE NEIGHBOUR: 'it returns false'. Refute it at one input. -/
def planeSetsWrong : ChangeSpec := { name := "planeSets", fn := fun _ => fun
  | [d1, d2, d3] => { results := [.lit (.bool false)], args := [d1, d2, d3] }
  | _ => none }
def PlaneSetsWrongFalsely : Prop := planeSetsRow.holds Try.pinned (OpenSpec.ofChange planeSetsWrong)

/-- 'cutroomlaw07.PlaneMacroblocks': WHATEVER THE INPUT: true; the input reads as it did. -/
def planeMacroblocksSpec : ChangeSpec := { name := "planeMacroblocks", fn := fun _ => fun
  | [d1, d2, d3, d4] => { results := [.lit (.bool true)], args := [d1, d2, d3, d4] }
  | _ => none }
def planeMacroblocksRow : OpenClaim := { program := "ytalnnbokmpppjaa", sum := "72634b0d72ce8eade8a9e78bbb0f0601ffdc0c872880eecfcfd0303d54dd7488", func := "cutroom/cutroomlaw07.PlaneMacroblocks", spec := "planeMacroblocks", apart := false }
def PlaneMacroblocksSaid : Prop := planeMacroblocksRow.holds Try.pinned (OpenSpec.ofChange planeMacroblocksSpec)

/-- ITS FALSE NEIGHBOUR: 'it returns false'. Refute it at one input. -/
def planeMacroblocksWrong : ChangeSpec := { name := "planeMacroblocks", fn := fun _ => fun
  | [d1, d2, d3, d4] => { results := [.lit (.bool false)], args := [d1, d2, d3, d4] }
  | _ => none }
def PlaneMacroblocksWrongFalsely : Prop := planeMacroblocksRow.holds Try.pinned (OpenSpec.ofChange planeMacroblocksWrong)

/-- 'cutroomlaw07.PlaneTiles': WHATEVER THE INPUT: true; the input reads as it did. -/
def planeTilesSpec : ChangeSpec := { name := "planeTiles", fn := fun _ => fun
  | [d1, d2] => { results := [.lit (.bool true)], args := [d1, d2] }
  | _ => none }
def planeTilesRow : OpenClaim := { program := "ytalnnbokmpppjaa", sum := "72634b0d72ce8eade8a9e78bbb0f0601ffdc0c872880eecfcfd0303d54dd7488", func := "cutroom/cutroomlaw07.PlaneTiles", spec := "planeTiles", apart := false }
def PlaneTilesSaid : Prop := planeTilesRow.holds Try.pinned (OpenSpec.ofChange planeTilesSpec)

/-- ITS FALSE NEIGHBOUR: 'it returns false'. Refute it at one input. -/
def planeTilesWrong : ChangeSpec := { name := "planeTiles", fn := fun _ => fun
  | [d1, d2] => { results := [.lit (.bool false)], args := [d1, d2] }
  | _ => none }
def PlaneTilesWrongFalsely : Prop := planeTilesRow.holds Try.pinned (OpenSpec.ofChange planeTilesWrong)

/- THE SECOND FORM. 'bulk': how many values and letters a reading holds, each counted each time it is reached (what is shared counts as often as it is met; a slice's spare places count too). A statement '..UptoSaid' is the law's where the arguments, and the package variables that the reading takes, are together of bulk at most 1048576: NARROWER than '..Said'. Prove '..Said' where nothing that the law and all that it calls make is longer than what came in: it says more and counts as full. Else prove '..UptoSaid'. A law counts once. -/
mutual
def uptoBulk {H : Type} : DataW H → Nat
  | .lit (.string bytes) => bytes.length + 1
  | .lit _ => 1
  | .nil => 1
  | .ptr d => uptoBulk d + 1
  | .slice elems spare => uptoBulkAll elems + uptoBulkAll spare + 1
  | .agg parts => uptoBulkAll parts + 1
  | .iface _ d => uptoBulk d + 1
  | .map entries => uptoBulkEntries entries + 1
  | .held _ => 1
def uptoBulkAll {H : Type} : List (DataW H) → Nat
  | [] => 0
  | d :: r => uptoBulk d + uptoBulkAll r
def uptoBulkEntries {H : Type} : List (Lit × DataW H) → Nat
  | [] => 0
  | x :: r => uptoBulkEntry x + uptoBulkEntries r
def uptoBulkEntry {H : Type} : Lit × DataW H → Nat
  | (.string bytes, d) => bytes.length + uptoBulk d + 1
  | (_, d) => uptoBulk d + 1
 end
def uptoSmall : (H : Type) → List (DataW H) → Bool := fun _ ds => decide (uptoBulkAll ds ≤ 1048576)
def OpenSpec.upto (s : _root_.Go.ChangeSpec) : _root_.Go.OpenSpec := { _root_.Go.OpenSpec.ofChange s with cond := some uptoSmall }

/-- 'cutroomlaw07.PlaneFormed', WHERE WHAT IT READS IS OF BULK AT MOST 1048576: true; the input reads as it did. -/
def planeFormedUptoRow : OpenClaim := { program := "ytalnnbokmpppjaa", sum := "72634b0d72ce8eade8a9e78bbb0f0601ffdc0c872880eecfcfd0303d54dd7488", func := "cutroom/cutroomlaw07.PlaneFormed", spec := "planeFormed", apart := false, narrowed := true }
def PlaneFormedUptoSaid : Prop := planeFormedUptoRow.holds Try.pinned (OpenSpec.upto planeFormedSpec)

/-- 'cutroomlaw07.PlaneFlat', WHERE WHAT IT READS IS OF BULK AT MOST 1048576: true; the input reads as it did. -/
def planeFlatUptoRow : OpenClaim := { program := "ytalnnbokmpppjaa", sum := "72634b0d72ce8eade8a9e78bbb0f0601ffdc0c872880eecfcfd0303d54dd7488", func := "cutroom/cutroomlaw07.PlaneFlat", spec := "planeFlat", apart := false, narrowed := true }
def PlaneFlatUptoSaid : Prop := planeFlatUptoRow.holds Try.pinned (OpenSpec.upto planeFlatSpec)

/-- 'cutroomlaw07.PlaneDistance', WHERE WHAT IT READS IS OF BULK AT MOST 1048576: true; the input reads as it did. -/
def planeDistanceUptoRow : OpenClaim := { program := "ytalnnbokmpppjaa", sum := "72634b0d72ce8eade8a9e78bbb0f0601ffdc0c872880eecfcfd0303d54dd7488", func := "cutroom/cutroomlaw07.PlaneDistance", spec := "planeDistance", apart := false, narrowed := true }
def PlaneDistanceUptoSaid : Prop := planeDistanceUptoRow.holds Try.pinned (OpenSpec.upto planeDistanceSpec)

/-- 'cutroomlaw07.PlaneMetric', WHERE WHAT IT READS IS OF BULK AT MOST 1048576: true; the input reads as it did. -/
def planeMetricUptoRow : OpenClaim := { program := "ytalnnbokmpppjaa", sum := "72634b0d72ce8eade8a9e78bbb0f0601ffdc0c872880eecfcfd0303d54dd7488", func := "cutroom/cutroomlaw07.PlaneMetric", spec := "planeMetric", apart := false, narrowed := true }
def PlaneMetricUptoSaid : Prop := planeMetricUptoRow.holds Try.pinned (OpenSpec.upto planeMetricSpec)

/-- 'cutroomlaw07.PlaneFields', WHERE WHAT IT READS IS OF BULK AT MOST 1048576: true; the input reads as it did. -/
def planeFieldsUptoRow : OpenClaim := { program := "ytalnnbokmpppjaa", sum := "72634b0d72ce8eade8a9e78bbb0f0601ffdc0c872880eecfcfd0303d54dd7488", func := "cutroom/cutroomlaw07.PlaneFields", spec := "planeFields", apart := false, narrowed := true }
def PlaneFieldsUptoSaid : Prop := planeFieldsUptoRow.holds Try.pinned (OpenSpec.upto planeFieldsSpec)

/-- 'cutroomlaw07.PlaneWeave', WHERE WHAT IT READS IS OF BULK AT MOST 1048576: true; the input reads as it did. -/
def planeWeaveUptoRow : OpenClaim := { program := "ytalnnbokmpppjaa", sum := "72634b0d72ce8eade8a9e78bbb0f0601ffdc0c872880eecfcfd0303d54dd7488", func := "cutroom/cutroomlaw07.PlaneWeave", spec := "planeWeave", apart := false, narrowed := true }
def PlaneWeaveUptoSaid : Prop := planeWeaveUptoRow.holds Try.pinned (OpenSpec.upto planeWeaveSpec)

/-- 'cutroomlaw07.PlaneBlocks', WHERE WHAT IT READS IS OF BULK AT MOST 1048576: true; the input reads as it did. -/
def planeBlocksUptoRow : OpenClaim := { program := "ytalnnbokmpppjaa", sum := "72634b0d72ce8eade8a9e78bbb0f0601ffdc0c872880eecfcfd0303d54dd7488", func := "cutroom/cutroomlaw07.PlaneBlocks", spec := "planeBlocks", apart := false, narrowed := true }
def PlaneBlocksUptoSaid : Prop := planeBlocksUptoRow.holds Try.pinned (OpenSpec.upto planeBlocksSpec)

/-- 'cutroomlaw07.PlaneSets', WHERE WHAT IT READS IS OF BULK AT MOST 1048576: true; the input reads as it did. -/
def planeSetsUptoRow : OpenClaim := { program := "ytalnnbokmpppjaa", sum := "72634b0d72ce8eade8a9e78bbb0f0601ffdc0c872880eecfcfd0303d54dd7488", func := "cutroom/cutroomlaw07.PlaneSets", spec := "planeSets", apart := false, narrowed := true }
def PlaneSetsUptoSaid : Prop := planeSetsUptoRow.holds Try.pinned (OpenSpec.upto planeSetsSpec)

/-- 'cutroomlaw07.PlaneMacroblocks', WHERE WHAT IT READS IS OF BULK AT MOST 1048576: true; the input reads as it did. -/
def planeMacroblocksUptoRow : OpenClaim := { program := "ytalnnbokmpppjaa", sum := "72634b0d72ce8eade8a9e78bbb0f0601ffdc0c872880eecfcfd0303d54dd7488", func := "cutroom/cutroomlaw07.PlaneMacroblocks", spec := "planeMacroblocks", apart := false, narrowed := true }
def PlaneMacroblocksUptoSaid : Prop := planeMacroblocksUptoRow.holds Try.pinned (OpenSpec.upto planeMacroblocksSpec)

/-- 'cutroomlaw07.PlaneTiles', WHERE WHAT IT READS IS OF BULK AT MOST 1048576: true; the input reads as it did. -/
def planeTilesUptoRow : OpenClaim := { program := "ytalnnbokmpppjaa", sum := "72634b0d72ce8eade8a9e78bbb0f0601ffdc0c872880eecfcfd0303d54dd7488", func := "cutroom/cutroomlaw07.PlaneTiles", spec := "planeTiles", apart := false, narrowed := true }
def PlaneTilesUptoSaid : Prop := planeTilesUptoRow.holds Try.pinned (OpenSpec.upto planeTilesSpec)

end Rows
end Go.Proofs.Ytalnnbokmpppjaa
