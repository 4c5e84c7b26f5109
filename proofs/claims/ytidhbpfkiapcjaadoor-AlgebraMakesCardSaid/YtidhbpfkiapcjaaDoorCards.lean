/-
  DERIVED. GIVEN WITH THE SEED: THE CARDS: each row of YtidhbpfkiapcjaaDoorRows.lean that lists a variable, with what it lists TIED to the program's text (the seventh form; the later family's looks); each row that meets fmt, with fmt's text TOLD by the authors' own Lean function (tested against real Go, not proved from fmt's source: count such statements apart). THE CARD IS WHAT COUNTS. Prove the row's statement (the work); the ties are given (YtidhbpfkiapcjaaDoorTie.lean); close each card by the builder's one call (the guide's Derived/Test/ToyasCard.lean, 'card_holds'). Laid BY PROGRAM, IN A SANDBOX (cutbox-door.mjs). By AI agents, Wed Nov 11 2026. No macro, syntax, notation, axiom, sorry.
-/
import Derived.Test.YtidhbpfkiapcjaaDoorRows
import GoSem.ClaimSeven
namespace Go.Proofs.YtidhbpfkiapcjaaDoor
namespace Rows

/-- THE TIED CARD OF 'paliolaw13.AlgebraMakes'. -/
def algebraMakesCard : Claim7 := { stood := { row := algebraMakesRow, standIns := [], harness := (true, "975cc324cdaa7e9ad31acf7b43377bfea797e4225bb1f43d189e104ed98142e4"), looks := true }, kinds := [], alts := [], laidByText := true, laidKinds := [.sentinel, .sentinel], laidTests := true, laidLooks := .later }
def AlgebraMakesCardSaid : Prop := Claim7.holds Tryd.pinned (.plain (OpenSpec.ofChange algebraMakesSpec)) algebraMakesCard

/-- THE TIED CARD OF 'paliolaw13.AlgebraTurns'. -/
def algebraTurnsCard : Claim7 := { stood := { row := algebraTurnsRow, standIns := [], harness := (true, "975cc324cdaa7e9ad31acf7b43377bfea797e4225bb1f43d189e104ed98142e4"), looks := true }, kinds := [], alts := [], laidByText := true, laidKinds := [.sentinel, .sentinel], laidTests := true, laidLooks := .later }
def AlgebraTurnsCardSaid : Prop := Claim7.holds Tryd.pinned (.plain (OpenSpec.ofChange algebraTurnsSpec)) algebraTurnsCard

/-- THE TIED CARD OF 'paliolaw13.AlgebraParts'. -/
def algebraPartsCard : Claim7 := { stood := { row := algebraPartsRow, standIns := [], harness := (true, "975cc324cdaa7e9ad31acf7b43377bfea797e4225bb1f43d189e104ed98142e4"), looks := true }, kinds := [], alts := [], laidByText := true, laidKinds := [.sentinel, .sentinel], laidTests := true, laidLooks := .later }
def AlgebraPartsCardSaid : Prop := Claim7.holds Tryd.pinned (.plain (OpenSpec.ofChange algebraPartsSpec)) algebraPartsCard

/-- THE TIED CARD OF 'paliolaw13.AlgebraOne'. -/
def algebraOneCard : Claim7 := { stood := { row := algebraOneRow, standIns := [], harness := (true, "975cc324cdaa7e9ad31acf7b43377bfea797e4225bb1f43d189e104ed98142e4"), looks := true }, kinds := [], alts := [], laidByText := true, laidKinds := [.sentinel, .sentinel], laidTests := true, laidLooks := .later }
def AlgebraOneCardSaid : Prop := Claim7.holds Tryd.pinned (.plain (OpenSpec.ofChange algebraOneSpec)) algebraOneCard

/-- THE TIED CARD OF 'paliolaw13.AlgebraOwn'. -/
def algebraOwnCard : Claim7 := { stood := { row := algebraOwnRow, standIns := [], harness := (true, "975cc324cdaa7e9ad31acf7b43377bfea797e4225bb1f43d189e104ed98142e4"), looks := true }, kinds := [], alts := [], laidByText := true, laidKinds := [.sentinel, .sentinel], laidTests := true, laidLooks := .later }
def AlgebraOwnCardSaid : Prop := Claim7.holds Tryd.pinned (.plain (OpenSpec.ofChange algebraOwnSpec)) algebraOwnCard

/-- THE TIED CARD OF 'paliolaw13.AlgebraEmpty'. -/
def algebraEmptyCard : Claim7 := { stood := { row := algebraEmptyRow, standIns := [], harness := (true, "975cc324cdaa7e9ad31acf7b43377bfea797e4225bb1f43d189e104ed98142e4"), looks := true }, kinds := [], alts := [], laidByText := true, laidKinds := [.sentinel, .sentinel], laidTests := true, laidLooks := .later }
def AlgebraEmptyCardSaid : Prop := Claim7.holds Tryd.pinned (.plain (OpenSpec.ofChange algebraEmptySpec)) algebraEmptyCard

/-- THE TIED CARD OF 'paliolaw13.AlgebraSorts'. -/
def algebraSortsCard : Claim7 := { stood := { row := algebraSortsRow, standIns := [], harness := (true, "975cc324cdaa7e9ad31acf7b43377bfea797e4225bb1f43d189e104ed98142e4"), looks := true }, kinds := [], alts := [], laidByText := true, laidKinds := [.sentinel, .sentinel], laidTests := true, laidLooks := .later }
def AlgebraSortsCardSaid : Prop := Claim7.holds Tryd.pinned (.plain (OpenSpec.ofChange algebraSortsSpec)) algebraSortsCard

/-- THE SECOND FORM's CARD OF 'paliolaw13.AlgebraMakes'. -/
def algebraMakesUptoCard : Claim7 := { stood := { row := algebraMakesUptoRow, standIns := [], harness := (true, "975cc324cdaa7e9ad31acf7b43377bfea797e4225bb1f43d189e104ed98142e4"), looks := true }, kinds := [], alts := [], laidByText := true, laidKinds := [.sentinel, .sentinel], laidTests := true, laidLooks := .later }
def AlgebraMakesUptoCardSaid : Prop := Claim7.holds Tryd.pinned (.plain (OpenSpec.upto algebraMakesSpec)) algebraMakesUptoCard

/-- THE SECOND FORM's CARD OF 'paliolaw13.AlgebraTurns'. -/
def algebraTurnsUptoCard : Claim7 := { stood := { row := algebraTurnsUptoRow, standIns := [], harness := (true, "975cc324cdaa7e9ad31acf7b43377bfea797e4225bb1f43d189e104ed98142e4"), looks := true }, kinds := [], alts := [], laidByText := true, laidKinds := [.sentinel, .sentinel], laidTests := true, laidLooks := .later }
def AlgebraTurnsUptoCardSaid : Prop := Claim7.holds Tryd.pinned (.plain (OpenSpec.upto algebraTurnsSpec)) algebraTurnsUptoCard

/-- THE SECOND FORM's CARD OF 'paliolaw13.AlgebraParts'. -/
def algebraPartsUptoCard : Claim7 := { stood := { row := algebraPartsUptoRow, standIns := [], harness := (true, "975cc324cdaa7e9ad31acf7b43377bfea797e4225bb1f43d189e104ed98142e4"), looks := true }, kinds := [], alts := [], laidByText := true, laidKinds := [.sentinel, .sentinel], laidTests := true, laidLooks := .later }
def AlgebraPartsUptoCardSaid : Prop := Claim7.holds Tryd.pinned (.plain (OpenSpec.upto algebraPartsSpec)) algebraPartsUptoCard

/-- THE SECOND FORM's CARD OF 'paliolaw13.AlgebraOne'. -/
def algebraOneUptoCard : Claim7 := { stood := { row := algebraOneUptoRow, standIns := [], harness := (true, "975cc324cdaa7e9ad31acf7b43377bfea797e4225bb1f43d189e104ed98142e4"), looks := true }, kinds := [], alts := [], laidByText := true, laidKinds := [.sentinel, .sentinel], laidTests := true, laidLooks := .later }
def AlgebraOneUptoCardSaid : Prop := Claim7.holds Tryd.pinned (.plain (OpenSpec.upto algebraOneSpec)) algebraOneUptoCard

/-- THE SECOND FORM's CARD OF 'paliolaw13.AlgebraOwn'. -/
def algebraOwnUptoCard : Claim7 := { stood := { row := algebraOwnUptoRow, standIns := [], harness := (true, "975cc324cdaa7e9ad31acf7b43377bfea797e4225bb1f43d189e104ed98142e4"), looks := true }, kinds := [], alts := [], laidByText := true, laidKinds := [.sentinel, .sentinel], laidTests := true, laidLooks := .later }
def AlgebraOwnUptoCardSaid : Prop := Claim7.holds Tryd.pinned (.plain (OpenSpec.upto algebraOwnSpec)) algebraOwnUptoCard

/-- THE SECOND FORM's CARD OF 'paliolaw13.AlgebraEmpty'. -/
def algebraEmptyUptoCard : Claim7 := { stood := { row := algebraEmptyUptoRow, standIns := [], harness := (true, "975cc324cdaa7e9ad31acf7b43377bfea797e4225bb1f43d189e104ed98142e4"), looks := true }, kinds := [], alts := [], laidByText := true, laidKinds := [.sentinel, .sentinel], laidTests := true, laidLooks := .later }
def AlgebraEmptyUptoCardSaid : Prop := Claim7.holds Tryd.pinned (.plain (OpenSpec.upto algebraEmptySpec)) algebraEmptyUptoCard

/-- THE SECOND FORM's CARD OF 'paliolaw13.AlgebraSorts'. -/
def algebraSortsUptoCard : Claim7 := { stood := { row := algebraSortsUptoRow, standIns := [], harness := (true, "975cc324cdaa7e9ad31acf7b43377bfea797e4225bb1f43d189e104ed98142e4"), looks := true }, kinds := [], alts := [], laidByText := true, laidKinds := [.sentinel, .sentinel], laidTests := true, laidLooks := .later }
def AlgebraSortsUptoCardSaid : Prop := Claim7.holds Tryd.pinned (.plain (OpenSpec.upto algebraSortsSpec)) algebraSortsUptoCard
end Rows
end Go.Proofs.YtidhbpfkiapcjaaDoor
