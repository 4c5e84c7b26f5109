/-
  No cell of these rows narrows 'for every input' (looked for: loops, veiled, ifaces, maps, wideKeys, modest, calm, conditions, laid).
  DERIVED. THE GIVEN ROWS OF THIS SEAT. 6 by the template 'for every input the law returns true; each argument reads behind the call as it read before'; 0 by the template 'total and deterministic' (their statements: YtndjbhibajjaoaaTotals.lean).
  GIVEN WITH THE SEED: the statements are not yours to turn. If you find one false, say at which input.
  Laid BY PROGRAM, IN A SANDBOX (cutbox-rows.mjs): the forced cells as the released guide's own fill.sh prints them over the translation cd5d0783f0237050… (all of the seat's roots in one cut). By AI agents, Wed Nov 11 2026. No macro, syntax, notation, axiom, sorry.
-/
import Derived.Test.YtndjbhibajjaoaaChecked
import GoSem.Claim
import GoSem.ClaimJoined
import GoSem.ClaimMapViews
import Derived.JoinedTies
import Derived.KernelRfl
namespace Go.Proofs.Ytndjbhibajjaoaa
/- THE CELL 'sum', in the pinned program and in every row, IS THE sha256 OF THE DUMP (.gsa) THAT YtndjbhibajjaoaaProg.lean LOADS. Nothing in Lean hashes anything: it is a label: what it is worth is what the hold of that sum in a sandbox is worth. -/
noncomputable def Try.pinned : Pinned := { name := "ytndjbhibajjaoaa", sum := "cd5d0783f0237050230a41ff1a06de54d161e48ad6a483abfa05744c564928c0", checked := Try.checked }
namespace Rows
def none {H : Type} : Left H := { results := [], args := [] }

/-- 'paliolaw12.FlagsDecide': WHATEVER THE INPUT: true; the input reads as it did. -/
def flagsDecideSpec : ChangeSpec := { name := "flagsDecide", fn := fun _ => fun
  | [d1, d2, d3, d4] => { results := [.lit (.bool true)], args := [d1, d2, d3, d4] }
  | _ => none }
def flagsDecideRow : OpenClaim := { program := "ytndjbhibajjaoaa", sum := "cd5d0783f0237050230a41ff1a06de54d161e48ad6a483abfa05744c564928c0", func := "palio/paliolaw12.FlagsDecide", spec := "flagsDecide", apart := false }
def FlagsDecideSaid : Prop := flagsDecideRow.holds Try.pinned (OpenSpec.ofChange flagsDecideSpec)

/-- ITS FALSE NEIGHBOUR: 'it returns false'. Refute it at one input. -/
def flagsDecideWrong : ChangeSpec := { name := "flagsDecide", fn := fun _ => fun
  | [d1, d2, d3, d4] => { results := [.lit (.bool false)], args := [d1, d2, d3, d4] }
  | _ => none }
def FlagsDecideWrongFalsely : Prop := flagsDecideRow.holds Try.pinned (OpenSpec.ofChange flagsDecideWrong)

/-- 'paliolaw12.FlagsTwice': WHATEVER THE INPUT: true; the input reads as it did. -/
def flagsTwiceSpec : ChangeSpec := { name := "flagsTwice", fn := fun _ => fun
  | [d1, d2, d3, d4] => { results := [.lit (.bool true)], args := [d1, d2, d3, d4] }
  | _ => none }
def flagsTwiceRow : OpenClaim := { program := "ytndjbhibajjaoaa", sum := "cd5d0783f0237050230a41ff1a06de54d161e48ad6a483abfa05744c564928c0", func := "palio/paliolaw12.FlagsTwice", spec := "flagsTwice", apart := false }
def FlagsTwiceSaid : Prop := flagsTwiceRow.holds Try.pinned (OpenSpec.ofChange flagsTwiceSpec)

/-- ITS FALSE NEIGHBOUR: 'it returns false'. Refute it at one input. -/
def flagsTwiceWrong : ChangeSpec := { name := "flagsTwice", fn := fun _ => fun
  | [d1, d2, d3, d4] => { results := [.lit (.bool false)], args := [d1, d2, d3, d4] }
  | _ => none }
def FlagsTwiceWrongFalsely : Prop := flagsTwiceRow.holds Try.pinned (OpenSpec.ofChange flagsTwiceWrong)

/-- 'paliolaw12.FlagsRises': WHATEVER THE INPUT: true; the input reads as it did. -/
def flagsRisesSpec : ChangeSpec := { name := "flagsRises", fn := fun _ => fun
  | [d1, d2, d3, d4] => { results := [.lit (.bool true)], args := [d1, d2, d3, d4] }
  | _ => none }
def flagsRisesRow : OpenClaim := { program := "ytndjbhibajjaoaa", sum := "cd5d0783f0237050230a41ff1a06de54d161e48ad6a483abfa05744c564928c0", func := "palio/paliolaw12.FlagsRises", spec := "flagsRises", apart := false }
def FlagsRisesSaid : Prop := flagsRisesRow.holds Try.pinned (OpenSpec.ofChange flagsRisesSpec)

/-- ITS FALSE NEIGHBOUR: 'it returns false'. Refute it at one input. -/
def flagsRisesWrong : ChangeSpec := { name := "flagsRises", fn := fun _ => fun
  | [d1, d2, d3, d4] => { results := [.lit (.bool false)], args := [d1, d2, d3, d4] }
  | _ => none }
def FlagsRisesWrongFalsely : Prop := flagsRisesRow.holds Try.pinned (OpenSpec.ofChange flagsRisesWrong)

/-- 'paliolaw12.FlagsNone': WHATEVER THE INPUT: true; the input reads as it did. -/
def flagsNoneSpec : ChangeSpec := { name := "flagsNone", fn := fun _ => fun
  | [d1, d2, d3] => { results := [.lit (.bool true)], args := [d1, d2, d3] }
  | _ => none }
def flagsNoneRow : OpenClaim := { program := "ytndjbhibajjaoaa", sum := "cd5d0783f0237050230a41ff1a06de54d161e48ad6a483abfa05744c564928c0", func := "palio/paliolaw12.FlagsNone", spec := "flagsNone", apart := false }
def FlagsNoneSaid : Prop := flagsNoneRow.holds Try.pinned (OpenSpec.ofChange flagsNoneSpec)

/-- ITS FALSE NEIGHBOUR: 'it returns false'. Refute it at one input. -/
def flagsNoneWrong : ChangeSpec := { name := "flagsNone", fn := fun _ => fun
  | [d1, d2, d3] => { results := [.lit (.bool false)], args := [d1, d2, d3] }
  | _ => none }
def FlagsNoneWrongFalsely : Prop := flagsNoneRow.holds Try.pinned (OpenSpec.ofChange flagsNoneWrong)

/-- 'paliolaw12.FlagsRead': WHATEVER THE INPUT: true; the input reads as it did. -/
def flagsReadSpec : ChangeSpec := { name := "flagsRead", fn := fun _ => fun
  | [d1, d2] => { results := [.lit (.bool true)], args := [d1, d2] }
  | _ => none }
def flagsReadRow : OpenClaim := { program := "ytndjbhibajjaoaa", sum := "cd5d0783f0237050230a41ff1a06de54d161e48ad6a483abfa05744c564928c0", func := "palio/paliolaw12.FlagsRead", spec := "flagsRead", inPlace := ["internal/abi.NoEscape"], unfollowed := true, recurses := true, apart := false }
def FlagsReadSaid : Prop := flagsReadRow.holds Try.pinned (OpenSpec.ofChange flagsReadSpec)

/-- ITS FALSE NEIGHBOUR: 'it returns false'. Refute it at one input. -/
def flagsReadWrong : ChangeSpec := { name := "flagsRead", fn := fun _ => fun
  | [d1, d2] => { results := [.lit (.bool false)], args := [d1, d2] }
  | _ => none }
def FlagsReadWrongFalsely : Prop := flagsReadRow.holds Try.pinned (OpenSpec.ofChange flagsReadWrong)

/-- 'paliolaw12.FlagsBack': WHATEVER THE INPUT: true; the input reads as it did. -/
def flagsBackSpec : ChangeSpec := { name := "flagsBack", fn := fun _ => fun
  | [d] => { results := [.lit (.bool true)], args := [d] }
  | _ => none }
def flagsBackRow : OpenClaim := { program := "ytndjbhibajjaoaa", sum := "cd5d0783f0237050230a41ff1a06de54d161e48ad6a483abfa05744c564928c0", func := "palio/paliolaw12.FlagsBack", spec := "flagsBack", inPlace := ["internal/abi.NoEscape"], unfollowed := true, recurses := true, apart := false }
def FlagsBackSaid : Prop := flagsBackRow.holds Try.pinned (OpenSpec.ofChange flagsBackSpec)

/-- ITS FALSE NEIGHBOUR: 'it returns false'. Refute it at one input. -/
def flagsBackWrong : ChangeSpec := { name := "flagsBack", fn := fun _ => fun
  | [d] => { results := [.lit (.bool false)], args := [d] }
  | _ => none }
def FlagsBackWrongFalsely : Prop := flagsBackRow.holds Try.pinned (OpenSpec.ofChange flagsBackWrong)

/- THE SECOND FORM. 'bulk': how many values and letters a reading holds, each counted each time it is reached (what is shared counts as often as it is met; a slice's spare places count too). A statement '..UptoSaid' is the law's where the arguments, and the package variables that the reading takes, are together of bulk at most 1048576: NARROWER than '..Said'. Prove '..Said' where nothing that the law and all that it calls make is longer than what came in: it says more and counts as full. Else prove '..UptoSaid'. A law counts once. -/
mutual
def uptoBulk {H : Type} : DataW H → Nat
  | .lit (.string bytes) => bytes.length + 1
  | .lit _ => 1
  | .nil => 1
  | .ptr d => uptoBulk d + 1
  | .slice elems spare => uptoBulkAll elems + uptoBulkAll spare + 1
  | .agg parts => uptoBulkAll parts + 1
  | .iface _ d => uptoBulk d + 1
  | .map entries => uptoBulkEntries entries + 1
  | .held _ => 1
def uptoBulkAll {H : Type} : List (DataW H) → Nat
  | [] => 0
  | d :: r => uptoBulk d + uptoBulkAll r
def uptoBulkEntries {H : Type} : List (Lit × DataW H) → Nat
  | [] => 0
  | x :: r => uptoBulkEntry x + uptoBulkEntries r
def uptoBulkEntry {H : Type} : Lit × DataW H → Nat
  | (.string bytes, d) => bytes.length + uptoBulk d + 1
  | (_, d) => uptoBulk d + 1
 end
def uptoSmall : (H : Type) → List (DataW H) → Bool := fun _ ds => decide (uptoBulkAll ds ≤ 1048576)
def OpenSpec.upto (s : _root_.Go.ChangeSpec) : _root_.Go.OpenSpec := { _root_.Go.OpenSpec.ofChange s with cond := some uptoSmall }

/-- 'paliolaw12.FlagsDecide', WHERE WHAT IT READS IS OF BULK AT MOST 1048576: true; the input reads as it did. -/
def flagsDecideUptoRow : OpenClaim := { program := "ytndjbhibajjaoaa", sum := "cd5d0783f0237050230a41ff1a06de54d161e48ad6a483abfa05744c564928c0", func := "palio/paliolaw12.FlagsDecide", spec := "flagsDecide", apart := false, narrowed := true }
def FlagsDecideUptoSaid : Prop := flagsDecideUptoRow.holds Try.pinned (OpenSpec.upto flagsDecideSpec)

/-- 'paliolaw12.FlagsTwice', WHERE WHAT IT READS IS OF BULK AT MOST 1048576: true; the input reads as it did. -/
def flagsTwiceUptoRow : OpenClaim := { program := "ytndjbhibajjaoaa", sum := "cd5d0783f0237050230a41ff1a06de54d161e48ad6a483abfa05744c564928c0", func := "palio/paliolaw12.FlagsTwice", spec := "flagsTwice", apart := false, narrowed := true }
def FlagsTwiceUptoSaid : Prop := flagsTwiceUptoRow.holds Try.pinned (OpenSpec.upto flagsTwiceSpec)

/-- 'paliolaw12.FlagsRises', WHERE WHAT IT READS IS OF BULK AT MOST 1048576: true; the input reads as it did. -/
def flagsRisesUptoRow : OpenClaim := { program := "ytndjbhibajjaoaa", sum := "cd5d0783f0237050230a41ff1a06de54d161e48ad6a483abfa05744c564928c0", func := "palio/paliolaw12.FlagsRises", spec := "flagsRises", apart := false, narrowed := true }
def FlagsRisesUptoSaid : Prop := flagsRisesUptoRow.holds Try.pinned (OpenSpec.upto flagsRisesSpec)

/-- 'paliolaw12.FlagsNone', WHERE WHAT IT READS IS OF BULK AT MOST 1048576: true; the input reads as it did. -/
def flagsNoneUptoRow : OpenClaim := { program := "ytndjbhibajjaoaa", sum := "cd5d0783f0237050230a41ff1a06de54d161e48ad6a483abfa05744c564928c0", func := "palio/paliolaw12.FlagsNone", spec := "flagsNone", apart := false, narrowed := true }
def FlagsNoneUptoSaid : Prop := flagsNoneUptoRow.holds Try.pinned (OpenSpec.upto flagsNoneSpec)

/-- 'paliolaw12.FlagsRead', WHERE WHAT IT READS IS OF BULK AT MOST 1048576: true; the input reads as it did. -/
def flagsReadUptoRow : OpenClaim := { program := "ytndjbhibajjaoaa", sum := "cd5d0783f0237050230a41ff1a06de54d161e48ad6a483abfa05744c564928c0", func := "palio/paliolaw12.FlagsRead", spec := "flagsRead", inPlace := ["internal/abi.NoEscape"], unfollowed := true, recurses := true, apart := false, narrowed := true }
def FlagsReadUptoSaid : Prop := flagsReadUptoRow.holds Try.pinned (OpenSpec.upto flagsReadSpec)

/-- 'paliolaw12.FlagsBack', WHERE WHAT IT READS IS OF BULK AT MOST 1048576: true; the input reads as it did. -/
def flagsBackUptoRow : OpenClaim := { program := "ytndjbhibajjaoaa", sum := "cd5d0783f0237050230a41ff1a06de54d161e48ad6a483abfa05744c564928c0", func := "palio/paliolaw12.FlagsBack", spec := "flagsBack", inPlace := ["internal/abi.NoEscape"], unfollowed := true, recurses := true, apart := false, narrowed := true }
def FlagsBackUptoSaid : Prop := flagsBackUptoRow.holds Try.pinned (OpenSpec.upto flagsBackSpec)

end Rows
end Go.Proofs.Ytndjbhibajjaoaa
