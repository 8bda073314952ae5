-- Written by a program of this session, after the form of the kit's print; each text is checked by Lean alone.
import Derived.Test.YtalnnbokmpppjaaProg
import Derived.Below
import Derived.Deep.Draws
import Derived.Deep.AppendLies
import Derived.Maps.AppendAt
import Derived.OwnWalk
import Derived.Laws.BytesArg
import Derived.Laws.MakeOwn
import Derived.Laws.OwnMore
import Derived.Deep.OwnRows
import Derived.Tactics
import Derived.Lib.ConvBytes
import Derived.Laws.Slices
import Derived.WalkKit
import Derived.KernelRfl
import Derived.RowKit3
import Derived.Deep.LoopGhost
import Derived.Deep.QuietTactic
import Derived.BigQuiet
import Derived.WideLaws
import Derived.Deep.DeepCutAuto
import Derived.Deep.CutBlock
import Derived.Deep.RegionHeld3
import Derived.Laws.Rows
import Derived.Lib.AppendStr
import Derived.ArgAppend
import Derived.Laws.IdiomCopy
import Derived.OrdersHeld
import Derived.Laws.BitsLemmas
import Derived.RowKit
import Derived.Test.YtalnnbokmpppjaaWWords
import Derived.Test.YtalnnbokmpppjaaWLast
import Derived.Test.YtalnnbokmpppjaaWTab
import Derived.Test.YtalnnbokmpppjaaWFour
import Derived.Test.YtalnnbokmpppjaaWQPut
import Derived.Test.YtalnnbokmpppjaaWApart
import Derived.Test.YtalnnbokmpppjaaWArr
import Derived.Test.YtalnnbokmpppjaaWZeros
import Derived.Test.YtalnnbokmpppjaaWFoot
import Derived.Test.YtalnnbokmpppjaaWKept
import Derived.Test.YtalnnbokmpppjaaWShare
import Derived.Test.YtalnnbokmpppjaaWN
import Derived.Test.YtalnnbokmpppjaaWFootNe
import Derived.Test.YtalnnbokmpppjaaWAt
import Derived.Test.YtalnnbokmpppjaaWEqStruct
import Derived.Test.YtalnnbokmpppjaaWRepsOne
import Derived.Test.YtalnnbokmpppjaaWInv
import Derived.Test.YtalnnbokmpppjaaWInvWords
import Derived.Test.YtalnnbokmpppjaaWGuard
import Derived.Test.YtalnnbokmpppjaaWNEv
import Derived.Test.YtalnnbokmpppjaaWMore
namespace Go.Proofs.Ytalnnbokmpppjaa.PPlaneFlat
open Go.RowKit Go.Proofs.YtalnnbokmpppjaaW.PrintWords Go.Proofs.YtalnnbokmpppjaaW.PrintLast Go.Proofs.YtalnnbokmpppjaaW.PrintMore
attribute [local go_sem] max2_int min2_int max_two min_two max_three min_three max_four min_four   -- for this text's walks alone
set_option linter.unusedVariables false
set_option linter.unusedSimpArgs false



def errW : Option Int → Value
  | none => .nilIface
  | some c => .iface 0 (.int .i64 c)
theorem errW_none : errW none = .nilIface := rfl
theorem errW_some (c : Int) : errW (some c) = .iface 0 (.int .i64 c) := rfl

theorem info5 : (Try.prog.info? 5).map (fun i => (i.zero, i.size, i.bytes)) = some (some (.int .u8 0), 1, 1) := by kernel_rfl
-- the values' own types

end Go.Proofs.Ytalnnbokmpppjaa.PPlaneFlat
