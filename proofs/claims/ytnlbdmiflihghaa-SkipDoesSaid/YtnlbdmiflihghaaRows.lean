/-
  No cell of these rows narrows 'for every input' (looked for: loops, veiled, ifaces, maps, wideKeys, modest, calm, conditions, laid).
  DERIVED. THE GIVEN ROWS OF THIS SEAT. 7 by the template 'for every input the law returns true; each argument reads behind the call as it read before'; 0 by the template 'total and deterministic' (their statements: YtnlbdmiflihghaaTotals.lean).
  GIVEN WITH THE SEED: the statements are not yours to turn. If you find one false, say at which input.
  Laid BY PROGRAM, IN A SANDBOX (cutbox-rows.mjs): the forced cells as the released guide's own fill.sh prints them over the translation 9b137e94af4435a8… (all of the seat's roots in one cut). By AI agents, Wed Nov 11 2026. No macro, syntax, notation, axiom, sorry.
-/
import Derived.Test.YtnlbdmiflihghaaChecked
import GoSem.Claim
import GoSem.ClaimJoined
import GoSem.ClaimMapViews
import Derived.JoinedTies
import Derived.KernelRfl
namespace Go.Proofs.Ytnlbdmiflihghaa
/- THE CELL 'sum', in the pinned program and in every row, IS THE sha256 OF THE DUMP (.gsa) THAT YtnlbdmiflihghaaProg.lean LOADS. Nothing in Lean hashes anything: it is a label: what it is worth is what the hold of that sum in a sandbox is worth. -/
noncomputable def Try.pinned : Pinned := { name := "ytnlbdmiflihghaa", sum := "9b137e94af4435a89880a69c1c581aaeb5c57d44bd17879c34cee78c72c3dae6", checked := Try.checked }
namespace Rows
def none {H : Type} : Left H := { results := [], args := [] }

/-- 'paliolaw10.SkipPlaces': WHATEVER THE INPUT: true; the input reads as it did. -/
def skipPlacesSpec : ChangeSpec := { name := "skipPlaces", fn := fun _ => fun
  | [d] => { results := [.lit (.bool true)], args := [d] }
  | _ => none }
def skipPlacesRow : OpenClaim := { program := "ytnlbdmiflihghaa", sum := "9b137e94af4435a89880a69c1c581aaeb5c57d44bd17879c34cee78c72c3dae6", func := "palio/paliolaw10.SkipPlaces", spec := "skipPlaces", unfollowed := true, recurses := true, apart := false }
def SkipPlacesSaid : Prop := skipPlacesRow.holds Try.pinned (OpenSpec.ofChange skipPlacesSpec)

/-- ITS FALSE NEIGHBOUR: 'it returns false'. Refute it at one input. -/
def skipPlacesWrong : ChangeSpec := { name := "skipPlaces", fn := fun _ => fun
  | [d] => { results := [.lit (.bool false)], args := [d] }
  | _ => none }
def SkipPlacesWrongFalsely : Prop := skipPlacesRow.holds Try.pinned (OpenSpec.ofChange skipPlacesWrong)

/-- 'paliolaw10.SkipSpans': WHATEVER THE INPUT: true; the input reads as it did. -/
def skipSpansSpec : ChangeSpec := { name := "skipSpans", fn := fun _ => fun
  | [d1, d2] => { results := [.lit (.bool true)], args := [d1, d2] }
  | _ => none }
def skipSpansRow : OpenClaim := { program := "ytnlbdmiflihghaa", sum := "9b137e94af4435a89880a69c1c581aaeb5c57d44bd17879c34cee78c72c3dae6", func := "palio/paliolaw10.SkipSpans", spec := "skipSpans", unfollowed := true, recurses := true, apart := false }
def SkipSpansSaid : Prop := skipSpansRow.holds Try.pinned (OpenSpec.ofChange skipSpansSpec)

/-- ITS FALSE NEIGHBOUR: 'it returns false'. Refute it at one input. -/
def skipSpansWrong : ChangeSpec := { name := "skipSpans", fn := fun _ => fun
  | [d1, d2] => { results := [.lit (.bool false)], args := [d1, d2] }
  | _ => none }
def SkipSpansWrongFalsely : Prop := skipSpansRow.holds Try.pinned (OpenSpec.ofChange skipSpansWrong)

/-- 'paliolaw10.SkipLevels': WHATEVER THE INPUT: true; the input reads as it did. -/
def skipLevelsSpec : ChangeSpec := { name := "skipLevels", fn := fun _ => fun
  | [d1, d2, d3] => { results := [.lit (.bool true)], args := [d1, d2, d3] }
  | _ => none }
def skipLevelsRow : OpenClaim := { program := "ytnlbdmiflihghaa", sum := "9b137e94af4435a89880a69c1c581aaeb5c57d44bd17879c34cee78c72c3dae6", func := "palio/paliolaw10.SkipLevels", spec := "skipLevels", unfollowed := true, recurses := true, apart := false }
def SkipLevelsSaid : Prop := skipLevelsRow.holds Try.pinned (OpenSpec.ofChange skipLevelsSpec)

/-- ITS FALSE NEIGHBOUR: 'it returns false'. Refute it at one input. -/
def skipLevelsWrong : ChangeSpec := { name := "skipLevels", fn := fun _ => fun
  | [d1, d2, d3] => { results := [.lit (.bool false)], args := [d1, d2, d3] }
  | _ => none }
def SkipLevelsWrongFalsely : Prop := skipLevelsRow.holds Try.pinned (OpenSpec.ofChange skipLevelsWrong)

/-- 'paliolaw10.SkipDoes': WHATEVER THE INPUT: true; the input reads as it did. -/
def skipDoesSpec : ChangeSpec := { name := "skipDoes", fn := fun _ => fun
  | [d] => { results := [.lit (.bool true)], args := [d] }
  | _ => none }
def skipDoesRow : OpenClaim := { program := "ytnlbdmiflihghaa", sum := "9b137e94af4435a89880a69c1c581aaeb5c57d44bd17879c34cee78c72c3dae6", func := "palio/paliolaw10.SkipDoes", spec := "skipDoes", unfollowed := true, recurses := true, apart := false }
def SkipDoesSaid : Prop := skipDoesRow.holds Try.pinned (OpenSpec.ofChange skipDoesSpec)

/-- ITS FALSE NEIGHBOUR: 'it returns false'. Refute it at one input. -/
def skipDoesWrong : ChangeSpec := { name := "skipDoes", fn := fun _ => fun
  | [d] => { results := [.lit (.bool false)], args := [d] }
  | _ => none }
def SkipDoesWrongFalsely : Prop := skipDoesRow.holds Try.pinned (OpenSpec.ofChange skipDoesWrong)

/-- 'paliolaw10.SkipCuts': WHATEVER THE INPUT: true; the input reads as it did. -/
def skipCutsSpec : ChangeSpec := { name := "skipCuts", fn := fun _ => fun
  | [d1, d2, d3] => { results := [.lit (.bool true)], args := [d1, d2, d3] }
  | _ => none }
def skipCutsRow : OpenClaim := { program := "ytnlbdmiflihghaa", sum := "9b137e94af4435a89880a69c1c581aaeb5c57d44bd17879c34cee78c72c3dae6", func := "palio/paliolaw10.SkipCuts", spec := "skipCuts", unfollowed := true, recurses := true, apart := false }
def SkipCutsSaid : Prop := skipCutsRow.holds Try.pinned (OpenSpec.ofChange skipCutsSpec)

/-- ITS FALSE NEIGHBOUR: 'it returns false'. Refute it at one input. -/
def skipCutsWrong : ChangeSpec := { name := "skipCuts", fn := fun _ => fun
  | [d1, d2, d3] => { results := [.lit (.bool false)], args := [d1, d2, d3] }
  | _ => none }
def SkipCutsWrongFalsely : Prop := skipCutsRow.holds Try.pinned (OpenSpec.ofChange skipCutsWrong)

/-- 'paliolaw10.SkipBack': WHATEVER THE INPUT: true; the input reads as it did. -/
def skipBackSpec : ChangeSpec := { name := "skipBack", fn := fun _ => fun
  | [d1, d2, d3] => { results := [.lit (.bool true)], args := [d1, d2, d3] }
  | _ => none }
def skipBackRow : OpenClaim := { program := "ytnlbdmiflihghaa", sum := "9b137e94af4435a89880a69c1c581aaeb5c57d44bd17879c34cee78c72c3dae6", func := "palio/paliolaw10.SkipBack", spec := "skipBack", unfollowed := true, recurses := true, apart := false }
def SkipBackSaid : Prop := skipBackRow.holds Try.pinned (OpenSpec.ofChange skipBackSpec)

/-- ITS FALSE NEIGHBOUR: 'it returns false'. Refute it at one input. -/
def skipBackWrong : ChangeSpec := { name := "skipBack", fn := fun _ => fun
  | [d1, d2, d3] => { results := [.lit (.bool false)], args := [d1, d2, d3] }
  | _ => none }
def SkipBackWrongFalsely : Prop := skipBackRow.holds Try.pinned (OpenSpec.ofChange skipBackWrong)

/-- 'paliolaw10.SkipNone': WHATEVER THE INPUT: true; the input reads as it did. -/
def skipNoneSpec : ChangeSpec := { name := "skipNone", fn := fun _ => fun
  | [d] => { results := [.lit (.bool true)], args := [d] }
  | _ => none }
def skipNoneRow : OpenClaim := { program := "ytnlbdmiflihghaa", sum := "9b137e94af4435a89880a69c1c581aaeb5c57d44bd17879c34cee78c72c3dae6", func := "palio/paliolaw10.SkipNone", spec := "skipNone", unfollowed := true, recurses := true, apart := false }
def SkipNoneSaid : Prop := skipNoneRow.holds Try.pinned (OpenSpec.ofChange skipNoneSpec)

/-- ITS FALSE NEIGHBOUR: 'it returns false'. Refute it at one input. -/
def skipNoneWrong : ChangeSpec := { name := "skipNone", fn := fun _ => fun
  | [d] => { results := [.lit (.bool false)], args := [d] }
  | _ => none }
def SkipNoneWrongFalsely : Prop := skipNoneRow.holds Try.pinned (OpenSpec.ofChange skipNoneWrong)

/- THE SECOND FORM. 'bulk': how many values and letters a reading holds, each counted each time it is reached (what is shared counts as often as it is met; a slice's spare places count too). A statement '..UptoSaid' is the law's where the arguments, and the package variables that the reading takes, are together of bulk at most 1048576: NARROWER than '..Said'. Prove '..Said' where nothing that the law and all that it calls make is longer than what came in: it says more and counts as full. Else prove '..UptoSaid'. A law counts once. -/
mutual
def uptoBulk {H : Type} : DataW H → Nat
  | .lit (.string bytes) => bytes.length + 1
  | .lit _ => 1
  | .nil => 1
  | .ptr d => uptoBulk d + 1
  | .slice elems spare => uptoBulkAll elems + uptoBulkAll spare + 1
  | .agg parts => uptoBulkAll parts + 1
  | .iface _ d => uptoBulk d + 1
  | .map entries => uptoBulkEntries entries + 1
  | .held _ => 1
def uptoBulkAll {H : Type} : List (DataW H) → Nat
  | [] => 0
  | d :: r => uptoBulk d + uptoBulkAll r
def uptoBulkEntries {H : Type} : List (Lit × DataW H) → Nat
  | [] => 0
  | x :: r => uptoBulkEntry x + uptoBulkEntries r
def uptoBulkEntry {H : Type} : Lit × DataW H → Nat
  | (.string bytes, d) => bytes.length + uptoBulk d + 1
  | (_, d) => uptoBulk d + 1
 end
def uptoSmall : (H : Type) → List (DataW H) → Bool := fun _ ds => decide (uptoBulkAll ds ≤ 1048576)
def OpenSpec.upto (s : _root_.Go.ChangeSpec) : _root_.Go.OpenSpec := { _root_.Go.OpenSpec.ofChange s with cond := some uptoSmall }

/-- 'paliolaw10.SkipPlaces', WHERE WHAT IT READS IS OF BULK AT MOST 1048576: true; the input reads as it did. -/
def skipPlacesUptoRow : OpenClaim := { program := "ytnlbdmiflihghaa", sum := "9b137e94af4435a89880a69c1c581aaeb5c57d44bd17879c34cee78c72c3dae6", func := "palio/paliolaw10.SkipPlaces", spec := "skipPlaces", unfollowed := true, recurses := true, apart := false, narrowed := true }
def SkipPlacesUptoSaid : Prop := skipPlacesUptoRow.holds Try.pinned (OpenSpec.upto skipPlacesSpec)

/-- 'paliolaw10.SkipSpans', WHERE WHAT IT READS IS OF BULK AT MOST 1048576: true; the input reads as it did. -/
def skipSpansUptoRow : OpenClaim := { program := "ytnlbdmiflihghaa", sum := "9b137e94af4435a89880a69c1c581aaeb5c57d44bd17879c34cee78c72c3dae6", func := "palio/paliolaw10.SkipSpans", spec := "skipSpans", unfollowed := true, recurses := true, apart := false, narrowed := true }
def SkipSpansUptoSaid : Prop := skipSpansUptoRow.holds Try.pinned (OpenSpec.upto skipSpansSpec)

/-- 'paliolaw10.SkipLevels', WHERE WHAT IT READS IS OF BULK AT MOST 1048576: true; the input reads as it did. -/
def skipLevelsUptoRow : OpenClaim := { program := "ytnlbdmiflihghaa", sum := "9b137e94af4435a89880a69c1c581aaeb5c57d44bd17879c34cee78c72c3dae6", func := "palio/paliolaw10.SkipLevels", spec := "skipLevels", unfollowed := true, recurses := true, apart := false, narrowed := true }
def SkipLevelsUptoSaid : Prop := skipLevelsUptoRow.holds Try.pinned (OpenSpec.upto skipLevelsSpec)

/-- 'paliolaw10.SkipDoes', WHERE WHAT IT READS IS OF BULK AT MOST 1048576: true; the input reads as it did. -/
def skipDoesUptoRow : OpenClaim := { program := "ytnlbdmiflihghaa", sum := "9b137e94af4435a89880a69c1c581aaeb5c57d44bd17879c34cee78c72c3dae6", func := "palio/paliolaw10.SkipDoes", spec := "skipDoes", unfollowed := true, recurses := true, apart := false, narrowed := true }
def SkipDoesUptoSaid : Prop := skipDoesUptoRow.holds Try.pinned (OpenSpec.upto skipDoesSpec)

/-- 'paliolaw10.SkipCuts', WHERE WHAT IT READS IS OF BULK AT MOST 1048576: true; the input reads as it did. -/
def skipCutsUptoRow : OpenClaim := { program := "ytnlbdmiflihghaa", sum := "9b137e94af4435a89880a69c1c581aaeb5c57d44bd17879c34cee78c72c3dae6", func := "palio/paliolaw10.SkipCuts", spec := "skipCuts", unfollowed := true, recurses := true, apart := false, narrowed := true }
def SkipCutsUptoSaid : Prop := skipCutsUptoRow.holds Try.pinned (OpenSpec.upto skipCutsSpec)

/-- 'paliolaw10.SkipBack', WHERE WHAT IT READS IS OF BULK AT MOST 1048576: true; the input reads as it did. -/
def skipBackUptoRow : OpenClaim := { program := "ytnlbdmiflihghaa", sum := "9b137e94af4435a89880a69c1c581aaeb5c57d44bd17879c34cee78c72c3dae6", func := "palio/paliolaw10.SkipBack", spec := "skipBack", unfollowed := true, recurses := true, apart := false, narrowed := true }
def SkipBackUptoSaid : Prop := skipBackUptoRow.holds Try.pinned (OpenSpec.upto skipBackSpec)

/-- 'paliolaw10.SkipNone', WHERE WHAT IT READS IS OF BULK AT MOST 1048576: true; the input reads as it did. -/
def skipNoneUptoRow : OpenClaim := { program := "ytnlbdmiflihghaa", sum := "9b137e94af4435a89880a69c1c581aaeb5c57d44bd17879c34cee78c72c3dae6", func := "palio/paliolaw10.SkipNone", spec := "skipNone", unfollowed := true, recurses := true, apart := false, narrowed := true }
def SkipNoneUptoSaid : Prop := skipNoneUptoRow.holds Try.pinned (OpenSpec.upto skipNoneSpec)

end Rows
end Go.Proofs.Ytnlbdmiflihghaa
