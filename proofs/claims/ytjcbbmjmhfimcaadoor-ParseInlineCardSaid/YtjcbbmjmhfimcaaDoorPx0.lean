/- Each theorem <function>.calls: a call of the Go function comes to the answer of the Lean function <function>.f. Conditions: that the Lean function has an answer; each theorem names its own. -/
import Derived.Test.YtjcbbmjmhfimcaaDoorProg
import Derived.Below
import Derived.Deep.Draws
import Derived.Deep.AppendLies
import Derived.Maps.AppendAt
import Derived.OwnWalk
import Derived.Laws.BytesArg
import Derived.Laws.MakeOwn
import Derived.Laws.OwnMore
import Derived.Deep.OwnRows
import Derived.Tactics
import Derived.Lib.ConvBytes
import Derived.Laws.Slices
import Derived.WalkKit
import Derived.KernelRfl
import Derived.RowKit3
import Derived.Deep.LoopGhost
import Derived.Deep.QuietTactic
import Derived.BigQuiet
import Derived.WideLaws
import Derived.Deep.DeepCutAuto
import Derived.Deep.CutBlock
import Derived.Deep.RegionHeld3
import Derived.Laws.Rows
import Derived.Lib.AppendStr
import Derived.ArgAppend
import Derived.Laws.IdiomCopy
import Derived.OrdersHeld
import Derived.Laws.BitsLemmas
import Derived.RowKit
import Derived.Test.YtjcbbmjmhfimcaaDoorWWords
import Derived.Test.YtjcbbmjmhfimcaaDoorWLast
import Derived.Test.YtjcbbmjmhfimcaaDoorWTab
import Derived.Test.YtjcbbmjmhfimcaaDoorWFour
import Derived.Test.YtjcbbmjmhfimcaaDoorWQPut
import Derived.Test.YtjcbbmjmhfimcaaDoorWApart
import Derived.Test.YtjcbbmjmhfimcaaDoorWArr
import Derived.Test.YtjcbbmjmhfimcaaDoorWZeros
import Derived.Test.YtjcbbmjmhfimcaaDoorWFoot
import Derived.Test.YtjcbbmjmhfimcaaDoorWKept
import Derived.Test.YtjcbbmjmhfimcaaDoorWShare
import Derived.Test.YtjcbbmjmhfimcaaDoorWN
import Derived.Test.YtjcbbmjmhfimcaaDoorWFootNe
import Derived.Test.YtjcbbmjmhfimcaaDoorWAt
import Derived.Test.YtjcbbmjmhfimcaaDoorWEqStruct
import Derived.Test.YtjcbbmjmhfimcaaDoorWRepsOne
import Derived.Test.YtjcbbmjmhfimcaaDoorWInv
import Derived.Test.YtjcbbmjmhfimcaaDoorWInvWords
import Derived.Test.YtjcbbmjmhfimcaaDoorWGuard
import Derived.Test.YtjcbbmjmhfimcaaDoorWNEv
import Derived.Test.YtjcbbmjmhfimcaaDoorWMore
namespace Go.Proofs.YtjcbbmjmhfimcaaDoor.P
open Go.RowKit Go.Proofs.YtjcbbmjmhfimcaaDoorW.PrintWords Go.Proofs.YtjcbbmjmhfimcaaDoorW.PrintLast Go.Proofs.YtjcbbmjmhfimcaaDoorW.PrintMore
attribute [local go_sem] max2_int min2_int max_two min_two max_three min_three max_four min_four   -- for this text's walks alone
set_option linter.unusedVariables false
set_option linter.unusedSimpArgs false



def errW : Option Int → Value
  | none => .nilIface
  | some c => .iface 0 (.int .i64 c)
theorem errW_none : errW none = .nilIface := rfl
theorem errW_some (c : Int) : errW (some c) = .iface 0 (.int .i64 c) := rfl

theorem info9 : (Tryd.prog.info? 9).map (fun i => (i.zero, i.size, i.bytes)) = some (some (.string ⟨#[]⟩), 1, 16) := by kernel_rfl
-- the values' own types

end Go.Proofs.YtjcbbmjmhfimcaaDoor.P
