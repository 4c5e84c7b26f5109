/- Each theorem <function>.calls: a call of the Go function comes to the answer of the Lean function <function>.f. Conditions: that the Lean function has an answer; each theorem names its own. -/
import Derived.Test.YtbhgpaeaaembjaaDoorProg
import Derived.Below
import Derived.Deep.Draws
import Derived.Deep.AppendLies
import Derived.Maps.AppendAt
import Derived.OwnWalk
import Derived.Laws.BytesArg
import Derived.Laws.MakeOwn
import Derived.Laws.OwnMore
import Derived.Deep.OwnRows
import Derived.Tactics
import Derived.Lib.ConvBytes
import Derived.Laws.Slices
import Derived.WalkKit
import Derived.KernelRfl
import Derived.RowKit3
import Derived.Deep.LoopGhost
import Derived.Deep.QuietTactic
import Derived.BigQuiet
import Derived.WideLaws
import Derived.Deep.DeepCutAuto
import Derived.Deep.CutBlock
import Derived.Deep.RegionHeld3
import Derived.Laws.Rows
import Derived.Lib.AppendStr
import Derived.ArgAppend
import Derived.Laws.IdiomCopy
import Derived.OrdersHeld
import Derived.Laws.BitsLemmas
import Derived.RowKit
import Derived.Test.YtbhgpaeaaembjaaDoorWWords
import Derived.Test.YtbhgpaeaaembjaaDoorWLast
import Derived.Test.YtbhgpaeaaembjaaDoorWTab
import Derived.Test.YtbhgpaeaaembjaaDoorWFour
import Derived.Test.YtbhgpaeaaembjaaDoorWQPut
import Derived.Test.YtbhgpaeaaembjaaDoorWApart
import Derived.Test.YtbhgpaeaaembjaaDoorWArr
import Derived.Test.YtbhgpaeaaembjaaDoorWZeros
import Derived.Test.YtbhgpaeaaembjaaDoorWFoot
import Derived.Test.YtbhgpaeaaembjaaDoorWKept
import Derived.Test.YtbhgpaeaaembjaaDoorWShare
import Derived.Test.YtbhgpaeaaembjaaDoorWN
import Derived.Test.YtbhgpaeaaembjaaDoorWFootNe
import Derived.Test.YtbhgpaeaaembjaaDoorWAt
import Derived.Test.YtbhgpaeaaembjaaDoorWEqStruct
import Derived.Test.YtbhgpaeaaembjaaDoorWRepsOne
import Derived.Test.YtbhgpaeaaembjaaDoorWInv
import Derived.Test.YtbhgpaeaaembjaaDoorWInvWords
import Derived.Test.YtbhgpaeaaembjaaDoorWGuard
import Derived.Test.YtbhgpaeaaembjaaDoorWNEv
import Derived.Test.YtbhgpaeaaembjaaDoorWMore
namespace Go.Proofs.YtbhgpaeaaembjaaDoor.P
open Go.RowKit Go.Proofs.YtbhgpaeaaembjaaDoorW.PrintWords Go.Proofs.YtbhgpaeaaembjaaDoorW.PrintLast Go.Proofs.YtbhgpaeaaembjaaDoorW.PrintMore
attribute [local go_sem] max2_int min2_int max_two min_two max_three min_three max_four min_four   -- for this text's walks alone
set_option linter.unusedVariables false
set_option linter.unusedSimpArgs false



def errW : Option Int → Value
  | none => .nilIface
  | some c => .iface 0 (.int .i64 c)
theorem errW_none : errW none = .nilIface := rfl
theorem errW_some (c : Int) : errW (some c) = .iface 0 (.int .i64 c) := rfl

-- the values' own types

end Go.Proofs.YtbhgpaeaaembjaaDoor.P
