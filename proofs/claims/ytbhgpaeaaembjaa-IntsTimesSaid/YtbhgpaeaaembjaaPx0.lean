/- Each theorem <function>.calls: a call of the Go function comes to the answer of the Lean function <function>.f. Conditions: that the Lean function has an answer; each theorem names its own. -/
import Derived.Test.YtbhgpaeaaembjaaProg
import Derived.Below
import Derived.Deep.Draws
import Derived.Deep.AppendLies
import Derived.Maps.AppendAt
import Derived.OwnWalk
import Derived.Laws.BytesArg
import Derived.Laws.MakeOwn
import Derived.Laws.OwnMore
import Derived.Deep.OwnRows
import Derived.Tactics
import Derived.Lib.ConvBytes
import Derived.Laws.Slices
import Derived.WalkKit
import Derived.KernelRfl
import Derived.RowKit3
import Derived.Deep.LoopGhost
import Derived.Deep.QuietTactic
import Derived.BigQuiet
import Derived.WideLaws
import Derived.Deep.DeepCutAuto
import Derived.Deep.CutBlock
import Derived.Deep.RegionHeld3
import Derived.Laws.Rows
import Derived.Lib.AppendStr
import Derived.ArgAppend
import Derived.Laws.IdiomCopy
import Derived.OrdersHeld
import Derived.Laws.BitsLemmas
import Derived.RowKit
import Derived.Test.YtbhgpaeaaembjaaWWords
import Derived.Test.YtbhgpaeaaembjaaWLast
import Derived.Test.YtbhgpaeaaembjaaWTab
import Derived.Test.YtbhgpaeaaembjaaWFour
import Derived.Test.YtbhgpaeaaembjaaWQPut
import Derived.Test.YtbhgpaeaaembjaaWApart
import Derived.Test.YtbhgpaeaaembjaaWArr
import Derived.Test.YtbhgpaeaaembjaaWZeros
import Derived.Test.YtbhgpaeaaembjaaWFoot
import Derived.Test.YtbhgpaeaaembjaaWKept
import Derived.Test.YtbhgpaeaaembjaaWShare
import Derived.Test.YtbhgpaeaaembjaaWN
import Derived.Test.YtbhgpaeaaembjaaWFootNe
import Derived.Test.YtbhgpaeaaembjaaWAt
import Derived.Test.YtbhgpaeaaembjaaWEqStruct
import Derived.Test.YtbhgpaeaaembjaaWRepsOne
import Derived.Test.YtbhgpaeaaembjaaWInv
import Derived.Test.YtbhgpaeaaembjaaWInvWords
import Derived.Test.YtbhgpaeaaembjaaWGuard
import Derived.Test.YtbhgpaeaaembjaaWNEv
import Derived.Test.YtbhgpaeaaembjaaWMore
namespace Go.Proofs.Ytbhgpaeaaembjaa.P
open Go.RowKit Go.Proofs.YtbhgpaeaaembjaaW.PrintWords Go.Proofs.YtbhgpaeaaembjaaW.PrintLast Go.Proofs.YtbhgpaeaaembjaaW.PrintMore
attribute [local go_sem] max2_int min2_int max_two min_two max_three min_three max_four min_four   -- for this text's walks alone
set_option linter.unusedVariables false
set_option linter.unusedSimpArgs false



def errW : Option Int → Value
  | none => .nilIface
  | some c => .iface 0 (.int .i64 c)
theorem errW_none : errW none = .nilIface := rfl
theorem errW_some (c : Int) : errW (some c) = .iface 0 (.int .i64 c) := rfl

-- the values' own types

end Go.Proofs.Ytbhgpaeaaembjaa.P
