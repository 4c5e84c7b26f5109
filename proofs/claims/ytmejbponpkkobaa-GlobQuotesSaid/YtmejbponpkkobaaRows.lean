/-
  No cell of these rows narrows 'for every input' (looked for: loops, veiled, ifaces, maps, wideKeys, modest, calm, conditions, laid).
  DERIVED. THE GIVEN ROWS OF THIS SEAT. 6 by the template 'for every input the law returns true; each argument reads behind the call as it read before'; 0 by the template 'total and deterministic' (their statements: YtmejbponpkkobaaTotals.lean).
  GIVEN WITH THE SEED: the statements are not yours to turn. If you find one false, say at which input.
  Laid BY PROGRAM, IN A SANDBOX (cutbox-rows.mjs): the forced cells as the released guide's own fill.sh prints them over the translation f2b11ee496ab5675… (all of the seat's roots in one cut). By AI agents, Wed Nov 11 2026. No macro, syntax, notation, axiom, sorry.
-/
import Derived.Test.YtmejbponpkkobaaChecked
import GoSem.Claim
import GoSem.ClaimJoined
import GoSem.ClaimMapViews
import Derived.JoinedTies
import Derived.KernelRfl
namespace Go.Proofs.Ytmejbponpkkobaa
/- THE CELL 'sum', in the pinned program and in every row, IS THE sha256 OF THE DUMP (.gsa) THAT YtmejbponpkkobaaProg.lean LOADS. Nothing in Lean hashes anything: it is a label: what it is worth is what the hold of that sum in a sandbox is worth. -/
noncomputable def Try.pinned : Pinned := { name := "ytmejbponpkkobaa", sum := "f2b11ee496ab5675811dc4f86132c924392883f4b7ee29d8fc5b7402e56abc6c", checked := Try.checked }
namespace Rows
def none {H : Type} : Left H := { results := [], args := [] }

/-- 'paliolaw02.GlobClasses': WHATEVER THE INPUT: true; the input reads as it did. -/
def globClassesSpec : ChangeSpec := { name := "globClasses", fn := fun _ => fun
  | [d1, d2, d3] => { results := [.lit (.bool true)], args := [d1, d2, d3] }
  | _ => none }
def globClassesRow : OpenClaim := { program := "ytmejbponpkkobaa", sum := "f2b11ee496ab5675811dc4f86132c924392883f4b7ee29d8fc5b7402e56abc6c", func := "palio/paliolaw02.GlobClasses", spec := "globClasses", unfollowed := true, recurses := true, apart := false }
def GlobClassesSaid : Prop := globClassesRow.holds Try.pinned (OpenSpec.ofChange globClassesSpec)

/-- ITS FALSE NEIGHBOUR: 'it returns false'. Refute it at one input. -/
def globClassesWrong : ChangeSpec := { name := "globClasses", fn := fun _ => fun
  | [d1, d2, d3] => { results := [.lit (.bool false)], args := [d1, d2, d3] }
  | _ => none }
def GlobClassesWrongFalsely : Prop := globClassesRow.holds Try.pinned (OpenSpec.ofChange globClassesWrong)

/-- 'paliolaw02.GlobAny': WHATEVER THE INPUT: true; the input reads as it did. -/
def globAnySpec : ChangeSpec := { name := "globAny", fn := fun _ => fun
  | [d1, d2] => { results := [.lit (.bool true)], args := [d1, d2] }
  | _ => none }
def globAnyRow : OpenClaim := { program := "ytmejbponpkkobaa", sum := "f2b11ee496ab5675811dc4f86132c924392883f4b7ee29d8fc5b7402e56abc6c", func := "palio/paliolaw02.GlobAny", spec := "globAny", unfollowed := true, recurses := true, apart := false }
def GlobAnySaid : Prop := globAnyRow.holds Try.pinned (OpenSpec.ofChange globAnySpec)

/-- ITS FALSE NEIGHBOUR: 'it returns false'. Refute it at one input. -/
def globAnyWrong : ChangeSpec := { name := "globAny", fn := fun _ => fun
  | [d1, d2] => { results := [.lit (.bool false)], args := [d1, d2] }
  | _ => none }
def GlobAnyWrongFalsely : Prop := globAnyRow.holds Try.pinned (OpenSpec.ofChange globAnyWrong)

/-- 'paliolaw02.GlobQuotes': WHATEVER THE INPUT: true; the input reads as it did. -/
def globQuotesSpec : ChangeSpec := { name := "globQuotes", fn := fun _ => fun
  | [d1, d2] => { results := [.lit (.bool true)], args := [d1, d2] }
  | _ => none }
def globQuotesRow : OpenClaim := { program := "ytmejbponpkkobaa", sum := "f2b11ee496ab5675811dc4f86132c924392883f4b7ee29d8fc5b7402e56abc6c", func := "palio/paliolaw02.GlobQuotes", spec := "globQuotes", inPlace := ["internal/bytealg.IndexByteString", "internal/abi.NoEscape"], unfollowed := true, recurses := true, apart := false }
def GlobQuotesSaid : Prop := globQuotesRow.holds Try.pinned (OpenSpec.ofChange globQuotesSpec)

/-- ITS FALSE NEIGHBOUR: 'it returns false'. Refute it at one input. -/
def globQuotesWrong : ChangeSpec := { name := "globQuotes", fn := fun _ => fun
  | [d1, d2] => { results := [.lit (.bool false)], args := [d1, d2] }
  | _ => none }
def GlobQuotesWrongFalsely : Prop := globQuotesRow.holds Try.pinned (OpenSpec.ofChange globQuotesWrong)

/-- 'paliolaw02.GlobStars': WHATEVER THE INPUT: true; the input reads as it did. -/
def globStarsSpec : ChangeSpec := { name := "globStars", fn := fun _ => fun
  | [d1, d2, d3] => { results := [.lit (.bool true)], args := [d1, d2, d3] }
  | _ => none }
def globStarsRow : OpenClaim := { program := "ytmejbponpkkobaa", sum := "f2b11ee496ab5675811dc4f86132c924392883f4b7ee29d8fc5b7402e56abc6c", func := "palio/paliolaw02.GlobStars", spec := "globStars", inPlace := ["internal/bytealg.IndexByteString", "internal/bytealg.IndexString"], unfollowed := true, recurses := true, named := ["internal/bytealg.MaxLen"], apart := false }
def GlobStarsSaid : Prop := globStarsRow.holds Try.pinned (OpenSpec.ofChange globStarsSpec)

/-- ITS FALSE NEIGHBOUR: 'it returns false'. Refute it at one input. -/
def globStarsWrong : ChangeSpec := { name := "globStars", fn := fun _ => fun
  | [d1, d2, d3] => { results := [.lit (.bool false)], args := [d1, d2, d3] }
  | _ => none }
def GlobStarsWrongFalsely : Prop := globStarsRow.holds Try.pinned (OpenSpec.ofChange globStarsWrong)

/-- 'paliolaw02.GlobPlainly': WHATEVER THE INPUT: true; the input reads as it did. -/
def globPlainlySpec : ChangeSpec := { name := "globPlainly", fn := fun _ => fun
  | [d1, d2] => { results := [.lit (.bool true)], args := [d1, d2] }
  | _ => none }
def globPlainlyRow : OpenClaim := { program := "ytmejbponpkkobaa", sum := "f2b11ee496ab5675811dc4f86132c924392883f4b7ee29d8fc5b7402e56abc6c", func := "palio/paliolaw02.GlobPlainly", spec := "globPlainly", inPlace := ["internal/bytealg.IndexByteString", "internal/bytealg.IndexString"], unfollowed := true, recurses := true, named := ["internal/bytealg.MaxLen"], apart := false }
def GlobPlainlySaid : Prop := globPlainlyRow.holds Try.pinned (OpenSpec.ofChange globPlainlySpec)

/-- ITS FALSE NEIGHBOUR: 'it returns false'. Refute it at one input. -/
def globPlainlyWrong : ChangeSpec := { name := "globPlainly", fn := fun _ => fun
  | [d1, d2] => { results := [.lit (.bool false)], args := [d1, d2] }
  | _ => none }
def GlobPlainlyWrongFalsely : Prop := globPlainlyRow.holds Try.pinned (OpenSpec.ofChange globPlainlyWrong)

/-- 'paliolaw02.GlobPlain': WHATEVER THE INPUT: true; the input reads as it did. -/
def globPlainSpec : ChangeSpec := { name := "globPlain", fn := fun _ => fun
  | [d] => { results := [.lit (.bool true)], args := [d] }
  | _ => none }
def globPlainRow : OpenClaim := { program := "ytmejbponpkkobaa", sum := "f2b11ee496ab5675811dc4f86132c924392883f4b7ee29d8fc5b7402e56abc6c", func := "palio/paliolaw02.GlobPlain", spec := "globPlain", inPlace := ["internal/bytealg.IndexByteString", "internal/bytealg.IndexString", "internal/abi.NoEscape"], unfollowed := true, recurses := true, named := ["internal/bytealg.MaxLen"], apart := false }
def GlobPlainSaid : Prop := globPlainRow.holds Try.pinned (OpenSpec.ofChange globPlainSpec)

/-- ITS FALSE NEIGHBOUR: 'it returns false'. Refute it at one input. -/
def globPlainWrong : ChangeSpec := { name := "globPlain", fn := fun _ => fun
  | [d] => { results := [.lit (.bool false)], args := [d] }
  | _ => none }
def GlobPlainWrongFalsely : Prop := globPlainRow.holds Try.pinned (OpenSpec.ofChange globPlainWrong)

/- THE SECOND FORM. 'bulk': how many values and letters a reading holds, each counted each time it is reached (what is shared counts as often as it is met; a slice's spare places count too). A statement '..UptoSaid' is the law's where the arguments, and the package variables that the reading takes, are together of bulk at most 1048576: NARROWER than '..Said'. Prove '..Said' where nothing that the law and all that it calls make is longer than what came in: it says more and counts as full. Else prove '..UptoSaid'. A law counts once. -/
mutual
def uptoBulk {H : Type} : DataW H → Nat
  | .lit (.string bytes) => bytes.length + 1
  | .lit _ => 1
  | .nil => 1
  | .ptr d => uptoBulk d + 1
  | .slice elems spare => uptoBulkAll elems + uptoBulkAll spare + 1
  | .agg parts => uptoBulkAll parts + 1
  | .iface _ d => uptoBulk d + 1
  | .map entries => uptoBulkEntries entries + 1
  | .held _ => 1
def uptoBulkAll {H : Type} : List (DataW H) → Nat
  | [] => 0
  | d :: r => uptoBulk d + uptoBulkAll r
def uptoBulkEntries {H : Type} : List (Lit × DataW H) → Nat
  | [] => 0
  | x :: r => uptoBulkEntry x + uptoBulkEntries r
def uptoBulkEntry {H : Type} : Lit × DataW H → Nat
  | (.string bytes, d) => bytes.length + uptoBulk d + 1
  | (_, d) => uptoBulk d + 1
 end
def uptoSmall : (H : Type) → List (DataW H) → Bool := fun _ ds => decide (uptoBulkAll ds ≤ 1048576)
def OpenSpec.upto (s : _root_.Go.ChangeSpec) : _root_.Go.OpenSpec := { _root_.Go.OpenSpec.ofChange s with cond := some uptoSmall }

/-- 'paliolaw02.GlobClasses', WHERE WHAT IT READS IS OF BULK AT MOST 1048576: true; the input reads as it did. -/
def globClassesUptoRow : OpenClaim := { program := "ytmejbponpkkobaa", sum := "f2b11ee496ab5675811dc4f86132c924392883f4b7ee29d8fc5b7402e56abc6c", func := "palio/paliolaw02.GlobClasses", spec := "globClasses", unfollowed := true, recurses := true, apart := false, narrowed := true }
def GlobClassesUptoSaid : Prop := globClassesUptoRow.holds Try.pinned (OpenSpec.upto globClassesSpec)

/-- 'paliolaw02.GlobAny', WHERE WHAT IT READS IS OF BULK AT MOST 1048576: true; the input reads as it did. -/
def globAnyUptoRow : OpenClaim := { program := "ytmejbponpkkobaa", sum := "f2b11ee496ab5675811dc4f86132c924392883f4b7ee29d8fc5b7402e56abc6c", func := "palio/paliolaw02.GlobAny", spec := "globAny", unfollowed := true, recurses := true, apart := false, narrowed := true }
def GlobAnyUptoSaid : Prop := globAnyUptoRow.holds Try.pinned (OpenSpec.upto globAnySpec)

/-- 'paliolaw02.GlobQuotes', WHERE WHAT IT READS IS OF BULK AT MOST 1048576: true; the input reads as it did. -/
def globQuotesUptoRow : OpenClaim := { program := "ytmejbponpkkobaa", sum := "f2b11ee496ab5675811dc4f86132c924392883f4b7ee29d8fc5b7402e56abc6c", func := "palio/paliolaw02.GlobQuotes", spec := "globQuotes", inPlace := ["internal/bytealg.IndexByteString", "internal/abi.NoEscape"], unfollowed := true, recurses := true, apart := false, narrowed := true }
def GlobQuotesUptoSaid : Prop := globQuotesUptoRow.holds Try.pinned (OpenSpec.upto globQuotesSpec)

/-- 'paliolaw02.GlobStars', WHERE WHAT IT READS IS OF BULK AT MOST 1048576: true; the input reads as it did. -/
def globStarsUptoRow : OpenClaim := { program := "ytmejbponpkkobaa", sum := "f2b11ee496ab5675811dc4f86132c924392883f4b7ee29d8fc5b7402e56abc6c", func := "palio/paliolaw02.GlobStars", spec := "globStars", inPlace := ["internal/bytealg.IndexByteString", "internal/bytealg.IndexString"], unfollowed := true, recurses := true, named := ["internal/bytealg.MaxLen"], apart := false, narrowed := true }
def GlobStarsUptoSaid : Prop := globStarsUptoRow.holds Try.pinned (OpenSpec.upto globStarsSpec)

/-- 'paliolaw02.GlobPlainly', WHERE WHAT IT READS IS OF BULK AT MOST 1048576: true; the input reads as it did. -/
def globPlainlyUptoRow : OpenClaim := { program := "ytmejbponpkkobaa", sum := "f2b11ee496ab5675811dc4f86132c924392883f4b7ee29d8fc5b7402e56abc6c", func := "palio/paliolaw02.GlobPlainly", spec := "globPlainly", inPlace := ["internal/bytealg.IndexByteString", "internal/bytealg.IndexString"], unfollowed := true, recurses := true, named := ["internal/bytealg.MaxLen"], apart := false, narrowed := true }
def GlobPlainlyUptoSaid : Prop := globPlainlyUptoRow.holds Try.pinned (OpenSpec.upto globPlainlySpec)

/-- 'paliolaw02.GlobPlain', WHERE WHAT IT READS IS OF BULK AT MOST 1048576: true; the input reads as it did. -/
def globPlainUptoRow : OpenClaim := { program := "ytmejbponpkkobaa", sum := "f2b11ee496ab5675811dc4f86132c924392883f4b7ee29d8fc5b7402e56abc6c", func := "palio/paliolaw02.GlobPlain", spec := "globPlain", inPlace := ["internal/bytealg.IndexByteString", "internal/bytealg.IndexString", "internal/abi.NoEscape"], unfollowed := true, recurses := true, named := ["internal/bytealg.MaxLen"], apart := false, narrowed := true }
def GlobPlainUptoSaid : Prop := globPlainUptoRow.holds Try.pinned (OpenSpec.upto globPlainSpec)

end Rows
end Go.Proofs.Ytmejbponpkkobaa
