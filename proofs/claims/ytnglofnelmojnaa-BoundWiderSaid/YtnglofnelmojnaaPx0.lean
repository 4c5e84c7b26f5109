/- Each theorem <function>.calls: a call of the Go function comes to the answer of the Lean function <function>.f. Conditions: that the Lean function has an answer; each theorem names its own. -/
import Derived.Test.YtnglofnelmojnaaProg
import Derived.Below
import Derived.Deep.Draws
import Derived.Deep.AppendLies
import Derived.Maps.AppendAt
import Derived.OwnWalk
import Derived.Laws.BytesArg
import Derived.Laws.MakeOwn
import Derived.Laws.OwnMore
import Derived.Deep.OwnRows
import Derived.Tactics
import Derived.Lib.ConvBytes
import Derived.Laws.Slices
import Derived.WalkKit
import Derived.KernelRfl
import Derived.RowKit3
import Derived.Deep.LoopGhost
import Derived.Deep.QuietTactic
import Derived.BigQuiet
import Derived.WideLaws
import Derived.Deep.DeepCutAuto
import Derived.Deep.CutBlock
import Derived.Deep.RegionHeld3
import Derived.Laws.Rows
import Derived.Lib.AppendStr
import Derived.ArgAppend
import Derived.Laws.IdiomCopy
import Derived.OrdersHeld
import Derived.Laws.BitsLemmas
import Derived.RowKit
import Derived.Test.YtnglofnelmojnaaWWords
import Derived.Test.YtnglofnelmojnaaWLast
import Derived.Test.YtnglofnelmojnaaWTab
import Derived.Test.YtnglofnelmojnaaWFour
import Derived.Test.YtnglofnelmojnaaWQPut
import Derived.Test.YtnglofnelmojnaaWApart
import Derived.Test.YtnglofnelmojnaaWArr
import Derived.Test.YtnglofnelmojnaaWZeros
import Derived.Test.YtnglofnelmojnaaWFoot
import Derived.Test.YtnglofnelmojnaaWKept
import Derived.Test.YtnglofnelmojnaaWShare
import Derived.Test.YtnglofnelmojnaaWN
import Derived.Test.YtnglofnelmojnaaWFootNe
import Derived.Test.YtnglofnelmojnaaWAt
import Derived.Test.YtnglofnelmojnaaWEqStruct
import Derived.Test.YtnglofnelmojnaaWRepsOne
import Derived.Test.YtnglofnelmojnaaWInv
import Derived.Test.YtnglofnelmojnaaWInvWords
import Derived.Test.YtnglofnelmojnaaWGuard
import Derived.Test.YtnglofnelmojnaaWNEv
import Derived.Test.YtnglofnelmojnaaWMore
namespace Go.Proofs.Ytnglofnelmojnaa.P
open Go.RowKit Go.Proofs.YtnglofnelmojnaaW.PrintWords Go.Proofs.YtnglofnelmojnaaW.PrintLast Go.Proofs.YtnglofnelmojnaaW.PrintMore
attribute [local go_sem] max2_int min2_int max_two min_two max_three min_three max_four min_four   -- for this text's walks alone
set_option linter.unusedVariables false
set_option linter.unusedSimpArgs false



def errW : Option Int → Value
  | none => .nilIface
  | some c => .iface 0 (.int .i64 c)
theorem errW_none : errW none = .nilIface := rfl
theorem errW_some (c : Int) : errW (some c) = .iface 0 (.int .i64 c) := rfl

theorem info3 : (Try.prog.info? 3).map (fun i => (i.zero, i.size, i.bytes)) = some (some (.int .i64 0), 1, 8) := by kernel_rfl
theorem info21 : (Try.prog.info? 21).map (fun i => (i.zero, i.size, i.bytes)) = some (some (.int .i32 0), 1, 4) := by kernel_rfl
-- the values' own types

end Go.Proofs.Ytnglofnelmojnaa.P
