/-
  No cell of these rows narrows 'for every input' (looked for: loops, veiled, ifaces, maps, wideKeys, modest, calm, conditions, laid).
  DERIVED. THE GIVEN ROWS OF THIS SEAT. 5 by the template 'for every input the law returns true; each argument reads behind the call as it read before'; 0 by the template 'total and deterministic' (their statements: YtbhgpaeaaembjaaTotals.lean).
  GIVEN WITH THE SEED: the statements are not yours to turn. If you find one false, say at which input.
  Laid BY PROGRAM, IN A SANDBOX (cutbox-rows.mjs): the forced cells as the released guide's own fill.sh prints them over the translation 69048bc58ef8b394… (all of the seat's roots in one cut). By AI agents, Wed Nov 11 2026. No macro, syntax, notation, axiom, sorry.
-/
import Derived.Test.YtbhgpaeaaembjaaChecked
import GoSem.Claim
import GoSem.ClaimJoined
import GoSem.ClaimMapViews
import Derived.JoinedTies
import Derived.KernelRfl
namespace Go.Proofs.Ytbhgpaeaaembjaa
/- THE CELL 'sum', in the pinned program and in every row, IS THE sha256 OF THE DUMP (.gsa) THAT YtbhgpaeaaembjaaProg.lean LOADS. Nothing in Lean hashes anything: it is a label: what it is worth is what the hold of that sum in a sandbox is worth. -/
noncomputable def Try.pinned : Pinned := { name := "ytbhgpaeaaembjaa", sum := "69048bc58ef8b394f84a2f1484cfec059f424aebeb87edf8002c78e84d3f23f0", checked := Try.checked }
namespace Rows
def none {H : Type} : Left H := { results := [], args := [] }

/-- 'paliolaw01.IntsTimes': WHATEVER THE INPUT: true; the input reads as it did. -/
def intsTimesSpec : ChangeSpec := { name := "intsTimes", fn := fun _ => fun
  | [d1, d2] => { results := [.lit (.bool true)], args := [d1, d2] }
  | _ => none }
def intsTimesRow : OpenClaim := { program := "ytbhgpaeaaembjaa", sum := "69048bc58ef8b394f84a2f1484cfec059f424aebeb87edf8002c78e84d3f23f0", func := "palio/paliolaw01.IntsTimes", spec := "intsTimes", unfollowed := true, recurses := true, apart := false }
def IntsTimesSaid : Prop := intsTimesRow.holds Try.pinned (OpenSpec.ofChange intsTimesSpec)

/-- ITS FALSE NEIGHBOUR: 'it returns false'. Refute it at one input. -/
def intsTimesWrong : ChangeSpec := { name := "intsTimes", fn := fun _ => fun
  | [d1, d2] => { results := [.lit (.bool false)], args := [d1, d2] }
  | _ => none }
def IntsTimesWrongFalsely : Prop := intsTimesRow.holds Try.pinned (OpenSpec.ofChange intsTimesWrong)

/-- 'paliolaw01.IntsPlaces': WHATEVER THE INPUT: true; the input reads as it did. -/
def intsPlacesSpec : ChangeSpec := { name := "intsPlaces", fn := fun _ => fun
  | [d1, d2] => { results := [.lit (.bool true)], args := [d1, d2] }
  | _ => none }
def intsPlacesRow : OpenClaim := { program := "ytbhgpaeaaembjaa", sum := "69048bc58ef8b394f84a2f1484cfec059f424aebeb87edf8002c78e84d3f23f0", func := "palio/paliolaw01.IntsPlaces", spec := "intsPlaces", unfollowed := true, recurses := true, apart := false }
def IntsPlacesSaid : Prop := intsPlacesRow.holds Try.pinned (OpenSpec.ofChange intsPlacesSpec)

/-- ITS FALSE NEIGHBOUR: 'it returns false'. Refute it at one input. -/
def intsPlacesWrong : ChangeSpec := { name := "intsPlaces", fn := fun _ => fun
  | [d1, d2] => { results := [.lit (.bool false)], args := [d1, d2] }
  | _ => none }
def IntsPlacesWrongFalsely : Prop := intsPlacesRow.holds Try.pinned (OpenSpec.ofChange intsPlacesWrong)

/-- 'paliolaw01.IntsTurns': WHATEVER THE INPUT: true; the input reads as it did. -/
def intsTurnsSpec : ChangeSpec := { name := "intsTurns", fn := fun _ => fun
  | [d1, d2] => { results := [.lit (.bool true)], args := [d1, d2] }
  | _ => none }
def intsTurnsRow : OpenClaim := { program := "ytbhgpaeaaembjaa", sum := "69048bc58ef8b394f84a2f1484cfec059f424aebeb87edf8002c78e84d3f23f0", func := "palio/paliolaw01.IntsTurns", spec := "intsTurns", unfollowed := true, recurses := true, apart := false }
def IntsTurnsSaid : Prop := intsTurnsRow.holds Try.pinned (OpenSpec.ofChange intsTurnsSpec)

/-- ITS FALSE NEIGHBOUR: 'it returns false'. Refute it at one input. -/
def intsTurnsWrong : ChangeSpec := { name := "intsTurns", fn := fun _ => fun
  | [d1, d2] => { results := [.lit (.bool false)], args := [d1, d2] }
  | _ => none }
def IntsTurnsWrongFalsely : Prop := intsTurnsRow.holds Try.pinned (OpenSpec.ofChange intsTurnsWrong)

/-- 'paliolaw01.IntsSigns': WHATEVER THE INPUT: true; the input reads as it did. -/
def intsSignsSpec : ChangeSpec := { name := "intsSigns", fn := fun _ => fun
  | [d] => { results := [.lit (.bool true)], args := [d] }
  | _ => none }
def intsSignsRow : OpenClaim := { program := "ytbhgpaeaaembjaa", sum := "69048bc58ef8b394f84a2f1484cfec059f424aebeb87edf8002c78e84d3f23f0", func := "palio/paliolaw01.IntsSigns", spec := "intsSigns", unfollowed := true, recurses := true, apart := false }
def IntsSignsSaid : Prop := intsSignsRow.holds Try.pinned (OpenSpec.ofChange intsSignsSpec)

/-- ITS FALSE NEIGHBOUR: 'it returns false'. Refute it at one input. -/
def intsSignsWrong : ChangeSpec := { name := "intsSigns", fn := fun _ => fun
  | [d] => { results := [.lit (.bool false)], args := [d] }
  | _ => none }
def IntsSignsWrongFalsely : Prop := intsSignsRow.holds Try.pinned (OpenSpec.ofChange intsSignsWrong)

/-- 'paliolaw01.IntsSums': WHATEVER THE INPUT: true; the input reads as it did. -/
def intsSumsSpec : ChangeSpec := { name := "intsSums", fn := fun _ => fun
  | [d1, d2] => { results := [.lit (.bool true)], args := [d1, d2] }
  | _ => none }
def intsSumsRow : OpenClaim := { program := "ytbhgpaeaaembjaa", sum := "69048bc58ef8b394f84a2f1484cfec059f424aebeb87edf8002c78e84d3f23f0", func := "palio/paliolaw01.IntsSums", spec := "intsSums", unfollowed := true, recurses := true, apart := false }
def IntsSumsSaid : Prop := intsSumsRow.holds Try.pinned (OpenSpec.ofChange intsSumsSpec)

/-- ITS FALSE NEIGHBOUR: 'it returns false'. Refute it at one input. -/
def intsSumsWrong : ChangeSpec := { name := "intsSums", fn := fun _ => fun
  | [d1, d2] => { results := [.lit (.bool false)], args := [d1, d2] }
  | _ => none }
def IntsSumsWrongFalsely : Prop := intsSumsRow.holds Try.pinned (OpenSpec.ofChange intsSumsWrong)

/- THE SECOND FORM. 'bulk': how many values and letters a reading holds, each counted each time it is reached (what is shared counts as often as it is met; a slice's spare places count too). A statement '..UptoSaid' is the law's where the arguments, and the package variables that the reading takes, are together of bulk at most 1048576: NARROWER than '..Said'. Prove '..Said' where nothing that the law and all that it calls make is longer than what came in: it says more and counts as full. Else prove '..UptoSaid'. A law counts once. -/
mutual
def uptoBulk {H : Type} : DataW H → Nat
  | .lit (.string bytes) => bytes.length + 1
  | .lit _ => 1
  | .nil => 1
  | .ptr d => uptoBulk d + 1
  | .slice elems spare => uptoBulkAll elems + uptoBulkAll spare + 1
  | .agg parts => uptoBulkAll parts + 1
  | .iface _ d => uptoBulk d + 1
  | .map entries => uptoBulkEntries entries + 1
  | .held _ => 1
def uptoBulkAll {H : Type} : List (DataW H) → Nat
  | [] => 0
  | d :: r => uptoBulk d + uptoBulkAll r
def uptoBulkEntries {H : Type} : List (Lit × DataW H) → Nat
  | [] => 0
  | x :: r => uptoBulkEntry x + uptoBulkEntries r
def uptoBulkEntry {H : Type} : Lit × DataW H → Nat
  | (.string bytes, d) => bytes.length + uptoBulk d + 1
  | (_, d) => uptoBulk d + 1
 end
def uptoSmall : (H : Type) → List (DataW H) → Bool := fun _ ds => decide (uptoBulkAll ds ≤ 1048576)
def OpenSpec.upto (s : _root_.Go.ChangeSpec) : _root_.Go.OpenSpec := { _root_.Go.OpenSpec.ofChange s with cond := some uptoSmall }

/-- 'paliolaw01.IntsTimes', WHERE WHAT IT READS IS OF BULK AT MOST 1048576: true; the input reads as it did. -/
def intsTimesUptoRow : OpenClaim := { program := "ytbhgpaeaaembjaa", sum := "69048bc58ef8b394f84a2f1484cfec059f424aebeb87edf8002c78e84d3f23f0", func := "palio/paliolaw01.IntsTimes", spec := "intsTimes", unfollowed := true, recurses := true, apart := false, narrowed := true }
def IntsTimesUptoSaid : Prop := intsTimesUptoRow.holds Try.pinned (OpenSpec.upto intsTimesSpec)

/-- 'paliolaw01.IntsPlaces', WHERE WHAT IT READS IS OF BULK AT MOST 1048576: true; the input reads as it did. -/
def intsPlacesUptoRow : OpenClaim := { program := "ytbhgpaeaaembjaa", sum := "69048bc58ef8b394f84a2f1484cfec059f424aebeb87edf8002c78e84d3f23f0", func := "palio/paliolaw01.IntsPlaces", spec := "intsPlaces", unfollowed := true, recurses := true, apart := false, narrowed := true }
def IntsPlacesUptoSaid : Prop := intsPlacesUptoRow.holds Try.pinned (OpenSpec.upto intsPlacesSpec)

/-- 'paliolaw01.IntsTurns', WHERE WHAT IT READS IS OF BULK AT MOST 1048576: true; the input reads as it did. -/
def intsTurnsUptoRow : OpenClaim := { program := "ytbhgpaeaaembjaa", sum := "69048bc58ef8b394f84a2f1484cfec059f424aebeb87edf8002c78e84d3f23f0", func := "palio/paliolaw01.IntsTurns", spec := "intsTurns", unfollowed := true, recurses := true, apart := false, narrowed := true }
def IntsTurnsUptoSaid : Prop := intsTurnsUptoRow.holds Try.pinned (OpenSpec.upto intsTurnsSpec)

/-- 'paliolaw01.IntsSigns', WHERE WHAT IT READS IS OF BULK AT MOST 1048576: true; the input reads as it did. -/
def intsSignsUptoRow : OpenClaim := { program := "ytbhgpaeaaembjaa", sum := "69048bc58ef8b394f84a2f1484cfec059f424aebeb87edf8002c78e84d3f23f0", func := "palio/paliolaw01.IntsSigns", spec := "intsSigns", unfollowed := true, recurses := true, apart := false, narrowed := true }
def IntsSignsUptoSaid : Prop := intsSignsUptoRow.holds Try.pinned (OpenSpec.upto intsSignsSpec)

/-- 'paliolaw01.IntsSums', WHERE WHAT IT READS IS OF BULK AT MOST 1048576: true; the input reads as it did. -/
def intsSumsUptoRow : OpenClaim := { program := "ytbhgpaeaaembjaa", sum := "69048bc58ef8b394f84a2f1484cfec059f424aebeb87edf8002c78e84d3f23f0", func := "palio/paliolaw01.IntsSums", spec := "intsSums", unfollowed := true, recurses := true, apart := false, narrowed := true }
def IntsSumsUptoSaid : Prop := intsSumsUptoRow.holds Try.pinned (OpenSpec.upto intsSumsSpec)

end Rows
end Go.Proofs.Ytbhgpaeaaembjaa
