/-
  NARROWER THAN 'FOR EVERY INPUT', by the rows' own cells (each row's printed sentence says how): AlgebraMakes: laid · AlgebraTurns: laid · AlgebraParts: laid · AlgebraOne: laid · AlgebraOwn: laid · AlgebraEmpty: laid · AlgebraSorts: laid.
  DERIVED. THE GIVEN ROWS OF THIS SEAT. 7 by the template 'for every input the law returns true; each argument reads behind the call as it read before'; 0 by the template 'total and deterministic' (their statements: YtidhbpfkiapcjaaDoorTotals.lean).
  GIVEN WITH THE SEED: the statements are not yours to turn. If you find one false, say at which input.
  Laid BY PROGRAM, IN A SANDBOX (cutbox-rows.mjs): the forced cells as the released guide's own fill.sh prints them over the translation 864412fa6f37905c… (all of the seat's roots in one cut). By AI agents, Wed Nov 11 2026. No macro, syntax, notation, axiom, sorry.
-/
import Derived.Test.YtidhbpfkiapcjaaDoorChecked
import GoSem.Claim
import GoSem.ClaimJoined
import GoSem.ClaimMapViews
import Derived.JoinedTies
import Derived.KernelRfl
namespace Go.Proofs.YtidhbpfkiapcjaaDoor
/- THE CELL 'sum', in the pinned program and in every row, IS THE sha256 OF THE DUMP (.gsa) THAT YtidhbpfkiapcjaaDoorProg.lean LOADS. Nothing in Lean hashes anything: it is a label: what it is worth is what the hold of that sum in a sandbox is worth. -/
noncomputable def Tryd.pinned : Pinned := { name := "ytidhbpfkiapcjaadoor", sum := "864412fa6f37905cef6ee6905a0a78ea80649d875a134342bd308fbbb8356696", checked := Tryd.checked }
namespace Rows
def none {H : Type} : Left H := { results := [], args := [] }

/- WHAT THE LISTED PACKAGE-LEVEL VARIABLES READ AS WHEN THE CALL BEGINS. Each datum BY PROGRAM (the guide's laid-datum.mjs) off the statement by which the dump's own 'gosem.cut.vars' lays the variable. In a bare row this is a premise. The card (YtidhbpfkiapcjaaDoorCards.lean) ties it to the program's text. -/
def laid_palio_algebra_errSets {H : Type} : DataW H := .iface "*errors.errorString" (.ptr (.agg [.lit (.string [110, 111, 32, 115, 101, 116, 115])]))
def laid_palio_algebra_errOver {H : Type} : DataW H := .iface "*errors.errorString" (.ptr (.agg [.lit (.string [116, 111, 111, 32, 103, 114, 101, 97, 116])]))

/-- 'paliolaw13.AlgebraMakes': WHATEVER THE INPUT: true; the input reads as it did. -/
def algebraMakesSpec : ChangeSpec := { name := "algebraMakes", fn := fun _ => fun
  | [d1, d2, d3, d4] => { results := [.lit (.bool true)], args := [d1, d2, d3, d4] }
  | _ => none }
def algebraMakesRow : OpenClaim := { program := "ytidhbpfkiapcjaadoor", sum := "864412fa6f37905cef6ee6905a0a78ea80649d875a134342bd308fbbb8356696", func := "palio/paliolaw13.AlgebraMakes", spec := "algebraMakes", inPlace := ["internal/reflectlite.TypeOf"], unfollowed := true, recurses := true, named := ["palio/algebra.errSets", "palio/algebra.errOver"], apart := false, laid := [("palio/algebra.errSets", laid_palio_algebra_errSets), ("palio/algebra.errOver", laid_palio_algebra_errOver)] }
def AlgebraMakesSaid : Prop := algebraMakesRow.holds Tryd.pinned (OpenSpec.ofChange algebraMakesSpec)

/-- ITS FALSE NEIGHBOUR: 'it returns false'. Refute it at one input. -/
def algebraMakesWrong : ChangeSpec := { name := "algebraMakes", fn := fun _ => fun
  | [d1, d2, d3, d4] => { results := [.lit (.bool false)], args := [d1, d2, d3, d4] }
  | _ => none }
def AlgebraMakesWrongFalsely : Prop := algebraMakesRow.holds Tryd.pinned (OpenSpec.ofChange algebraMakesWrong)

/-- 'paliolaw13.AlgebraTurns': WHATEVER THE INPUT: true; the input reads as it did. -/
def algebraTurnsSpec : ChangeSpec := { name := "algebraTurns", fn := fun _ => fun
  | [d1, d2] => { results := [.lit (.bool true)], args := [d1, d2] }
  | _ => none }
def algebraTurnsRow : OpenClaim := { program := "ytidhbpfkiapcjaadoor", sum := "864412fa6f37905cef6ee6905a0a78ea80649d875a134342bd308fbbb8356696", func := "palio/paliolaw13.AlgebraTurns", spec := "algebraTurns", inPlace := ["internal/reflectlite.TypeOf"], unfollowed := true, recurses := true, named := ["palio/algebra.errSets", "palio/algebra.errOver"], apart := false, laid := [("palio/algebra.errSets", laid_palio_algebra_errSets), ("palio/algebra.errOver", laid_palio_algebra_errOver)] }
def AlgebraTurnsSaid : Prop := algebraTurnsRow.holds Tryd.pinned (OpenSpec.ofChange algebraTurnsSpec)

/-- ITS FALSE NEIGHBOUR: 'it returns false'. Refute it at one input. -/
def algebraTurnsWrong : ChangeSpec := { name := "algebraTurns", fn := fun _ => fun
  | [d1, d2] => { results := [.lit (.bool false)], args := [d1, d2] }
  | _ => none }
def AlgebraTurnsWrongFalsely : Prop := algebraTurnsRow.holds Tryd.pinned (OpenSpec.ofChange algebraTurnsWrong)

/-- 'paliolaw13.AlgebraParts': WHATEVER THE INPUT: true; the input reads as it did. -/
def algebraPartsSpec : ChangeSpec := { name := "algebraParts", fn := fun _ => fun
  | [d1, d2] => { results := [.lit (.bool true)], args := [d1, d2] }
  | _ => none }
def algebraPartsRow : OpenClaim := { program := "ytidhbpfkiapcjaadoor", sum := "864412fa6f37905cef6ee6905a0a78ea80649d875a134342bd308fbbb8356696", func := "palio/paliolaw13.AlgebraParts", spec := "algebraParts", inPlace := ["internal/reflectlite.TypeOf"], unfollowed := true, recurses := true, named := ["palio/algebra.errSets", "palio/algebra.errOver"], apart := false, laid := [("palio/algebra.errSets", laid_palio_algebra_errSets), ("palio/algebra.errOver", laid_palio_algebra_errOver)] }
def AlgebraPartsSaid : Prop := algebraPartsRow.holds Tryd.pinned (OpenSpec.ofChange algebraPartsSpec)

/-- ITS FALSE NEIGHBOUR: 'it returns false'. Refute it at one input. -/
def algebraPartsWrong : ChangeSpec := { name := "algebraParts", fn := fun _ => fun
  | [d1, d2] => { results := [.lit (.bool false)], args := [d1, d2] }
  | _ => none }
def AlgebraPartsWrongFalsely : Prop := algebraPartsRow.holds Tryd.pinned (OpenSpec.ofChange algebraPartsWrong)

/-- 'paliolaw13.AlgebraOne': WHATEVER THE INPUT: true; the input reads as it did. -/
def algebraOneSpec : ChangeSpec := { name := "algebraOne", fn := fun _ => fun
  | [d1, d2] => { results := [.lit (.bool true)], args := [d1, d2] }
  | _ => none }
def algebraOneRow : OpenClaim := { program := "ytidhbpfkiapcjaadoor", sum := "864412fa6f37905cef6ee6905a0a78ea80649d875a134342bd308fbbb8356696", func := "palio/paliolaw13.AlgebraOne", spec := "algebraOne", inPlace := ["internal/reflectlite.TypeOf"], unfollowed := true, recurses := true, named := ["palio/algebra.errSets", "palio/algebra.errOver"], apart := false, laid := [("palio/algebra.errSets", laid_palio_algebra_errSets), ("palio/algebra.errOver", laid_palio_algebra_errOver)] }
def AlgebraOneSaid : Prop := algebraOneRow.holds Tryd.pinned (OpenSpec.ofChange algebraOneSpec)

/-- ITS FALSE NEIGHBOUR: 'it returns false'. Refute it at one input. -/
def algebraOneWrong : ChangeSpec := { name := "algebraOne", fn := fun _ => fun
  | [d1, d2] => { results := [.lit (.bool false)], args := [d1, d2] }
  | _ => none }
def AlgebraOneWrongFalsely : Prop := algebraOneRow.holds Tryd.pinned (OpenSpec.ofChange algebraOneWrong)

/-- 'paliolaw13.AlgebraOwn': WHATEVER THE INPUT: true; the input reads as it did. -/
def algebraOwnSpec : ChangeSpec := { name := "algebraOwn", fn := fun _ => fun
  | [d] => { results := [.lit (.bool true)], args := [d] }
  | _ => none }
def algebraOwnRow : OpenClaim := { program := "ytidhbpfkiapcjaadoor", sum := "864412fa6f37905cef6ee6905a0a78ea80649d875a134342bd308fbbb8356696", func := "palio/paliolaw13.AlgebraOwn", spec := "algebraOwn", inPlace := ["internal/reflectlite.TypeOf"], unfollowed := true, recurses := true, named := ["palio/algebra.errSets", "palio/algebra.errOver"], apart := false, laid := [("palio/algebra.errSets", laid_palio_algebra_errSets), ("palio/algebra.errOver", laid_palio_algebra_errOver)] }
def AlgebraOwnSaid : Prop := algebraOwnRow.holds Tryd.pinned (OpenSpec.ofChange algebraOwnSpec)

/-- ITS FALSE NEIGHBOUR: 'it returns false'. Refute it at one input. -/
def algebraOwnWrong : ChangeSpec := { name := "algebraOwn", fn := fun _ => fun
  | [d] => { results := [.lit (.bool false)], args := [d] }
  | _ => none }
def AlgebraOwnWrongFalsely : Prop := algebraOwnRow.holds Tryd.pinned (OpenSpec.ofChange algebraOwnWrong)

/-- 'paliolaw13.AlgebraEmpty': WHATEVER THE INPUT: true; the input reads as it did. -/
def algebraEmptySpec : ChangeSpec := { name := "algebraEmpty", fn := fun _ => fun
  | [d] => { results := [.lit (.bool true)], args := [d] }
  | _ => none }
def algebraEmptyRow : OpenClaim := { program := "ytidhbpfkiapcjaadoor", sum := "864412fa6f37905cef6ee6905a0a78ea80649d875a134342bd308fbbb8356696", func := "palio/paliolaw13.AlgebraEmpty", spec := "algebraEmpty", inPlace := ["internal/reflectlite.TypeOf"], unfollowed := true, recurses := true, named := ["palio/algebra.errSets", "palio/algebra.errOver"], apart := false, laid := [("palio/algebra.errSets", laid_palio_algebra_errSets), ("palio/algebra.errOver", laid_palio_algebra_errOver)] }
def AlgebraEmptySaid : Prop := algebraEmptyRow.holds Tryd.pinned (OpenSpec.ofChange algebraEmptySpec)

/-- ITS FALSE NEIGHBOUR: 'it returns false'. Refute it at one input. -/
def algebraEmptyWrong : ChangeSpec := { name := "algebraEmpty", fn := fun _ => fun
  | [d] => { results := [.lit (.bool false)], args := [d] }
  | _ => none }
def AlgebraEmptyWrongFalsely : Prop := algebraEmptyRow.holds Tryd.pinned (OpenSpec.ofChange algebraEmptyWrong)

/-- 'paliolaw13.AlgebraSorts': WHATEVER THE INPUT: true; the input reads as it did. -/
def algebraSortsSpec : ChangeSpec := { name := "algebraSorts", fn := fun _ => fun
  | [d] => { results := [.lit (.bool true)], args := [d] }
  | _ => none }
def algebraSortsRow : OpenClaim := { program := "ytidhbpfkiapcjaadoor", sum := "864412fa6f37905cef6ee6905a0a78ea80649d875a134342bd308fbbb8356696", func := "palio/paliolaw13.AlgebraSorts", spec := "algebraSorts", inPlace := ["internal/reflectlite.TypeOf"], unfollowed := true, recurses := true, named := ["palio/algebra.errSets", "palio/algebra.errOver"], apart := false, laid := [("palio/algebra.errSets", laid_palio_algebra_errSets), ("palio/algebra.errOver", laid_palio_algebra_errOver)] }
def AlgebraSortsSaid : Prop := algebraSortsRow.holds Tryd.pinned (OpenSpec.ofChange algebraSortsSpec)

/-- ITS FALSE NEIGHBOUR: 'it returns false'. Refute it at one input. -/
def algebraSortsWrong : ChangeSpec := { name := "algebraSorts", fn := fun _ => fun
  | [d] => { results := [.lit (.bool false)], args := [d] }
  | _ => none }
def AlgebraSortsWrongFalsely : Prop := algebraSortsRow.holds Tryd.pinned (OpenSpec.ofChange algebraSortsWrong)

/- THE SECOND FORM. 'bulk': how many values and letters a reading holds, each counted each time it is reached (what is shared counts as often as it is met; a slice's spare places count too). A statement '..UptoSaid' is the law's where the arguments, and the package variables that the reading takes, are together of bulk at most 1048576: NARROWER than '..Said'. Prove '..Said' where nothing that the law and all that it calls make is longer than what came in: it says more and counts as full. Else prove '..UptoSaid'. A law counts once. -/
mutual
def uptoBulk {H : Type} : DataW H → Nat
  | .lit (.string bytes) => bytes.length + 1
  | .lit _ => 1
  | .nil => 1
  | .ptr d => uptoBulk d + 1
  | .slice elems spare => uptoBulkAll elems + uptoBulkAll spare + 1
  | .agg parts => uptoBulkAll parts + 1
  | .iface _ d => uptoBulk d + 1
  | .map entries => uptoBulkEntries entries + 1
  | .held _ => 1
def uptoBulkAll {H : Type} : List (DataW H) → Nat
  | [] => 0
  | d :: r => uptoBulk d + uptoBulkAll r
def uptoBulkEntries {H : Type} : List (Lit × DataW H) → Nat
  | [] => 0
  | x :: r => uptoBulkEntry x + uptoBulkEntries r
def uptoBulkEntry {H : Type} : Lit × DataW H → Nat
  | (.string bytes, d) => bytes.length + uptoBulk d + 1
  | (_, d) => uptoBulk d + 1
 end
def uptoSmall : (H : Type) → List (DataW H) → Bool := fun _ ds => decide (uptoBulkAll ds ≤ 1048576)
def OpenSpec.upto (s : _root_.Go.ChangeSpec) : _root_.Go.OpenSpec := { _root_.Go.OpenSpec.ofChange s with cond := some uptoSmall }

/-- 'paliolaw13.AlgebraMakes', WHERE WHAT IT READS IS OF BULK AT MOST 1048576: true; the input reads as it did. -/
def algebraMakesUptoRow : OpenClaim := { program := "ytidhbpfkiapcjaadoor", sum := "864412fa6f37905cef6ee6905a0a78ea80649d875a134342bd308fbbb8356696", func := "palio/paliolaw13.AlgebraMakes", spec := "algebraMakes", inPlace := ["internal/reflectlite.TypeOf"], unfollowed := true, recurses := true, named := ["palio/algebra.errSets", "palio/algebra.errOver"], apart := false, laid := [("palio/algebra.errSets", laid_palio_algebra_errSets), ("palio/algebra.errOver", laid_palio_algebra_errOver)], narrowed := true }
def AlgebraMakesUptoSaid : Prop := algebraMakesUptoRow.holds Tryd.pinned (OpenSpec.upto algebraMakesSpec)

/-- 'paliolaw13.AlgebraTurns', WHERE WHAT IT READS IS OF BULK AT MOST 1048576: true; the input reads as it did. -/
def algebraTurnsUptoRow : OpenClaim := { program := "ytidhbpfkiapcjaadoor", sum := "864412fa6f37905cef6ee6905a0a78ea80649d875a134342bd308fbbb8356696", func := "palio/paliolaw13.AlgebraTurns", spec := "algebraTurns", inPlace := ["internal/reflectlite.TypeOf"], unfollowed := true, recurses := true, named := ["palio/algebra.errSets", "palio/algebra.errOver"], apart := false, laid := [("palio/algebra.errSets", laid_palio_algebra_errSets), ("palio/algebra.errOver", laid_palio_algebra_errOver)], narrowed := true }
def AlgebraTurnsUptoSaid : Prop := algebraTurnsUptoRow.holds Tryd.pinned (OpenSpec.upto algebraTurnsSpec)

/-- 'paliolaw13.AlgebraParts', WHERE WHAT IT READS IS OF BULK AT MOST 1048576: true; the input reads as it did. -/
def algebraPartsUptoRow : OpenClaim := { program := "ytidhbpfkiapcjaadoor", sum := "864412fa6f37905cef6ee6905a0a78ea80649d875a134342bd308fbbb8356696", func := "palio/paliolaw13.AlgebraParts", spec := "algebraParts", inPlace := ["internal/reflectlite.TypeOf"], unfollowed := true, recurses := true, named := ["palio/algebra.errSets", "palio/algebra.errOver"], apart := false, laid := [("palio/algebra.errSets", laid_palio_algebra_errSets), ("palio/algebra.errOver", laid_palio_algebra_errOver)], narrowed := true }
def AlgebraPartsUptoSaid : Prop := algebraPartsUptoRow.holds Tryd.pinned (OpenSpec.upto algebraPartsSpec)

/-- 'paliolaw13.AlgebraOne', WHERE WHAT IT READS IS OF BULK AT MOST 1048576: true; the input reads as it did. -/
def algebraOneUptoRow : OpenClaim := { program := "ytidhbpfkiapcjaadoor", sum := "864412fa6f37905cef6ee6905a0a78ea80649d875a134342bd308fbbb8356696", func := "palio/paliolaw13.AlgebraOne", spec := "algebraOne", inPlace := ["internal/reflectlite.TypeOf"], unfollowed := true, recurses := true, named := ["palio/algebra.errSets", "palio/algebra.errOver"], apart := false, laid := [("palio/algebra.errSets", laid_palio_algebra_errSets), ("palio/algebra.errOver", laid_palio_algebra_errOver)], narrowed := true }
def AlgebraOneUptoSaid : Prop := algebraOneUptoRow.holds Tryd.pinned (OpenSpec.upto algebraOneSpec)

/-- 'paliolaw13.AlgebraOwn', WHERE WHAT IT READS IS OF BULK AT MOST 1048576: true; the input reads as it did. -/
def algebraOwnUptoRow : OpenClaim := { program := "ytidhbpfkiapcjaadoor", sum := "864412fa6f37905cef6ee6905a0a78ea80649d875a134342bd308fbbb8356696", func := "palio/paliolaw13.AlgebraOwn", spec := "algebraOwn", inPlace := ["internal/reflectlite.TypeOf"], unfollowed := true, recurses := true, named := ["palio/algebra.errSets", "palio/algebra.errOver"], apart := false, laid := [("palio/algebra.errSets", laid_palio_algebra_errSets), ("palio/algebra.errOver", laid_palio_algebra_errOver)], narrowed := true }
def AlgebraOwnUptoSaid : Prop := algebraOwnUptoRow.holds Tryd.pinned (OpenSpec.upto algebraOwnSpec)

/-- 'paliolaw13.AlgebraEmpty', WHERE WHAT IT READS IS OF BULK AT MOST 1048576: true; the input reads as it did. -/
def algebraEmptyUptoRow : OpenClaim := { program := "ytidhbpfkiapcjaadoor", sum := "864412fa6f37905cef6ee6905a0a78ea80649d875a134342bd308fbbb8356696", func := "palio/paliolaw13.AlgebraEmpty", spec := "algebraEmpty", inPlace := ["internal/reflectlite.TypeOf"], unfollowed := true, recurses := true, named := ["palio/algebra.errSets", "palio/algebra.errOver"], apart := false, laid := [("palio/algebra.errSets", laid_palio_algebra_errSets), ("palio/algebra.errOver", laid_palio_algebra_errOver)], narrowed := true }
def AlgebraEmptyUptoSaid : Prop := algebraEmptyUptoRow.holds Tryd.pinned (OpenSpec.upto algebraEmptySpec)

/-- 'paliolaw13.AlgebraSorts', WHERE WHAT IT READS IS OF BULK AT MOST 1048576: true; the input reads as it did. -/
def algebraSortsUptoRow : OpenClaim := { program := "ytidhbpfkiapcjaadoor", sum := "864412fa6f37905cef6ee6905a0a78ea80649d875a134342bd308fbbb8356696", func := "palio/paliolaw13.AlgebraSorts", spec := "algebraSorts", inPlace := ["internal/reflectlite.TypeOf"], unfollowed := true, recurses := true, named := ["palio/algebra.errSets", "palio/algebra.errOver"], apart := false, laid := [("palio/algebra.errSets", laid_palio_algebra_errSets), ("palio/algebra.errOver", laid_palio_algebra_errOver)], narrowed := true }
def AlgebraSortsUptoSaid : Prop := algebraSortsUptoRow.holds Tryd.pinned (OpenSpec.upto algebraSortsSpec)

end Rows
end Go.Proofs.YtidhbpfkiapcjaaDoor
