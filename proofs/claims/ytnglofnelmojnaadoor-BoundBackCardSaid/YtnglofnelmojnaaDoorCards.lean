/-
  DERIVED. GIVEN WITH THE SEED: THE CARDS: each row of YtnglofnelmojnaaDoorRows.lean that lists a variable, with what it lists TIED to the program's text (the seventh form; the later family's looks); each row that meets fmt, with fmt's text TOLD by the authors' own Lean function (tested against real Go, not proved from fmt's source: count such statements apart). THE CARD IS WHAT COUNTS. Prove the row's statement (the work); the ties are given (YtnglofnelmojnaaDoorTie.lean); close each card by the builder's one call (the guide's Derived/Test/ToyasCard.lean, 'card_holds'). Laid BY PROGRAM, IN A SANDBOX (cutbox-door.mjs). By AI agents, Wed Nov 11 2026. No macro, syntax, notation, axiom, sorry.
-/
import Derived.Test.YtnglofnelmojnaaDoorRows
import GoSem.ClaimSeven
namespace Go.Proofs.YtnglofnelmojnaaDoor
namespace Rows

/-- THE TIED CARD OF 'paliolaw09.BoundReads'. -/
def boundReadsCard : Claim7 := { stood := { row := boundReadsRow, standIns := [], harness := (true, "ac6d7e7f1432234d64d22bab679ed4257a2371f78083aa67fc4e5329c19dd310"), looks := true }, kinds := [], alts := [], laidByText := true, laidKinds := [.data, .data, .data], laidTests := true, laidLooks := .later }
def BoundReadsCardSaid : Prop := Claim7.holds Tryd.pinned (.plain (OpenSpec.ofChange boundReadsSpec)) boundReadsCard

/-- THE TIED CARD OF 'paliolaw09.BoundBack'. -/
def boundBackCard : Claim7 := { stood := { row := boundBackRow, standIns := [], harness := (true, "ac6d7e7f1432234d64d22bab679ed4257a2371f78083aa67fc4e5329c19dd310"), looks := true }, kinds := [], alts := [], laidByText := true, laidKinds := [.data, .data, .data], laidTests := true, laidLooks := .later }
def BoundBackCardSaid : Prop := Claim7.holds Tryd.pinned (.plain (OpenSpec.ofChange boundBackSpec)) boundBackCard

/-- THE SECOND FORM's CARD OF 'paliolaw09.BoundReads'. -/
def boundReadsUptoCard : Claim7 := { stood := { row := boundReadsUptoRow, standIns := [], harness := (true, "ac6d7e7f1432234d64d22bab679ed4257a2371f78083aa67fc4e5329c19dd310"), looks := true }, kinds := [], alts := [], laidByText := true, laidKinds := [.data, .data, .data], laidTests := true, laidLooks := .later }
def BoundReadsUptoCardSaid : Prop := Claim7.holds Tryd.pinned (.plain (OpenSpec.upto boundReadsSpec)) boundReadsUptoCard

/-- THE SECOND FORM's CARD OF 'paliolaw09.BoundBack'. -/
def boundBackUptoCard : Claim7 := { stood := { row := boundBackUptoRow, standIns := [], harness := (true, "ac6d7e7f1432234d64d22bab679ed4257a2371f78083aa67fc4e5329c19dd310"), looks := true }, kinds := [], alts := [], laidByText := true, laidKinds := [.data, .data, .data], laidTests := true, laidLooks := .later }
def BoundBackUptoCardSaid : Prop := Claim7.holds Tryd.pinned (.plain (OpenSpec.upto boundBackSpec)) boundBackUptoCard
end Rows
end Go.Proofs.YtnglofnelmojnaaDoor
