-- Written by a program of this session, after the form of the kit's print; each text is checked by Lean alone.
import Derived.Test.YtifemmalcncicaaProg
import Derived.Below
import Derived.Deep.Draws
import Derived.Deep.AppendLies
import Derived.Maps.AppendAt
import Derived.OwnWalk
import Derived.Laws.BytesArg
import Derived.Laws.MakeOwn
import Derived.Laws.OwnMore
import Derived.Deep.OwnRows
import Derived.Tactics
import Derived.Lib.ConvBytes
import Derived.Laws.Slices
import Derived.WalkKit
import Derived.KernelRfl
import Derived.RowKit3
import Derived.Deep.LoopGhost
import Derived.Deep.QuietTactic
import Derived.BigQuiet
import Derived.WideLaws
import Derived.Deep.DeepCutAuto
import Derived.Deep.CutBlock
import Derived.Deep.RegionHeld3
import Derived.Laws.Rows
import Derived.Lib.AppendStr
import Derived.ArgAppend
import Derived.Laws.IdiomCopy
import Derived.OrdersHeld
import Derived.Laws.BitsLemmas
import Derived.RowKit
import Derived.Test.YtifemmalcncicaaShelf
import Derived.Shelf.Spec.BitsCarry
import Derived.Test.YtifemmalcncicaaWWords
import Derived.Test.YtifemmalcncicaaWLast
import Derived.Test.YtifemmalcncicaaWTab
import Derived.Test.YtifemmalcncicaaWFour
import Derived.Test.YtifemmalcncicaaWQPut
import Derived.Test.YtifemmalcncicaaWApart
import Derived.Test.YtifemmalcncicaaWArr
import Derived.Test.YtifemmalcncicaaWZeros
import Derived.Test.YtifemmalcncicaaWFoot
import Derived.Test.YtifemmalcncicaaWKept
import Derived.Test.YtifemmalcncicaaWShare
import Derived.Test.YtifemmalcncicaaWN
import Derived.Test.YtifemmalcncicaaWFootNe
import Derived.Test.YtifemmalcncicaaWAt
import Derived.Test.YtifemmalcncicaaWEqStruct
import Derived.Test.YtifemmalcncicaaWRepsOne
import Derived.Test.YtifemmalcncicaaWInv
import Derived.Test.YtifemmalcncicaaWInvWords
import Derived.Test.YtifemmalcncicaaWGuard
import Derived.Test.YtifemmalcncicaaWNEv
import Derived.Test.YtifemmalcncicaaWMore
namespace Go.Proofs.Ytifemmalcncicaa.PRationalPosition
open Go.RowKit Go.Proofs.YtifemmalcncicaaW.PrintWords Go.Proofs.YtifemmalcncicaaW.PrintLast Go.Proofs.YtifemmalcncicaaW.PrintMore
attribute [local go_sem] max2_int min2_int max_two min_two max_three min_three max_four min_four   -- for this text's walks alone
set_option linter.unusedVariables false
set_option linter.unusedSimpArgs false



def errW : Option Int → Value
  | none => .nilIface
  | some c => .iface 0 (.int .i64 c)
theorem errW_none : errW none = .nilIface := rfl
theorem errW_some (c : Int) : errW (some c) = .iface 0 (.int .i64 c) := rfl

-- the values' own types

end Go.Proofs.Ytifemmalcncicaa.PRationalPosition
