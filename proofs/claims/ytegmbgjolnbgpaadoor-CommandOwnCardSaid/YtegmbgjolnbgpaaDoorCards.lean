/-
  DERIVED. GIVEN WITH THE SEED: THE CARDS: each row of YtegmbgjolnbgpaaDoorRows.lean that lists a variable, with what it lists TIED to the program's text (the seventh form; the later family's looks); each row that meets fmt, with fmt's text TOLD by the authors' own Lean function (tested against real Go, not proved from fmt's source: count such statements apart). THE CARD IS WHAT COUNTS. Prove the row's statement (the work); the ties are given (YtegmbgjolnbgpaaDoorTie.lean); close each card by the builder's one call (the guide's Derived/Test/ToyasCard.lean, 'card_holds'). Laid BY PROGRAM, IN A SANDBOX (cutbox-door.mjs). By AI agents, Wed Nov 11 2026. No macro, syntax, notation, axiom, sorry.
-/
import Derived.Test.YtegmbgjolnbgpaaDoorRows
import GoSem.ClaimSeven
namespace Go.Proofs.YtegmbgjolnbgpaaDoor
namespace Rows

/-- THE TIED CARD OF 'paliolaw17.CommandOwn'. -/
def commandOwnCard : Claim7 := { stood := { row := commandOwnRow, standIns := [], harness := (true, "2d80aaf668db7b5b825e8b00b4e4e6dfcfe5b7eb1c3a9da48b21fe7aaa1e60db"), looks := true }, kinds := [], alts := [], laidByText := true, laidKinds := [.handle], laidTests := true, laidLooks := .later }
def CommandOwnCardSaid : Prop := Claim7.holds Tryd.pinned (.plain (OpenSpec.ofChange commandOwnSpec)) commandOwnCard

/-- THE TIED CARD OF 'paliolaw17.CommandEntries'. -/
def commandEntriesCard : Claim7 := { stood := { row := commandEntriesRow, standIns := [], harness := (true, "2d80aaf668db7b5b825e8b00b4e4e6dfcfe5b7eb1c3a9da48b21fe7aaa1e60db"), looks := true }, kinds := [], alts := [], laidByText := true, laidKinds := [.handle], laidTests := true, laidLooks := .later }
def CommandEntriesCardSaid : Prop := Claim7.holds Tryd.pinned (.plain (OpenSpec.ofChange commandEntriesSpec)) commandEntriesCard

/-- THE TIED CARD OF 'paliolaw17.CommandCases'. -/
def commandCasesCard : Claim7 := { stood := { row := commandCasesRow, standIns := [], harness := (true, "2d80aaf668db7b5b825e8b00b4e4e6dfcfe5b7eb1c3a9da48b21fe7aaa1e60db"), looks := true }, kinds := [], alts := [], laidByText := true, laidKinds := [.handle], laidTests := true, laidLooks := .later }
def CommandCasesCardSaid : Prop := Claim7.holds Tryd.pinned (.plain (OpenSpec.ofChange commandCasesSpec)) commandCasesCard

/-- THE TIED CARD OF 'paliolaw17.CommandLevels'. -/
def commandLevelsCard : Claim7 := { stood := { row := commandLevelsRow, standIns := [], harness := (true, "2d80aaf668db7b5b825e8b00b4e4e6dfcfe5b7eb1c3a9da48b21fe7aaa1e60db"), looks := true }, kinds := [], alts := [], laidByText := true, laidKinds := [.handle], laidTests := true, laidLooks := .later }
def CommandLevelsCardSaid : Prop := Claim7.holds Tryd.pinned (.plain (OpenSpec.ofChange commandLevelsSpec)) commandLevelsCard

/-- THE SECOND FORM's CARD OF 'paliolaw17.CommandOwn'. -/
def commandOwnUptoCard : Claim7 := { stood := { row := commandOwnUptoRow, standIns := [], harness := (true, "2d80aaf668db7b5b825e8b00b4e4e6dfcfe5b7eb1c3a9da48b21fe7aaa1e60db"), looks := true }, kinds := [], alts := [], laidByText := true, laidKinds := [.handle], laidTests := true, laidLooks := .later }
def CommandOwnUptoCardSaid : Prop := Claim7.holds Tryd.pinned (.plain (OpenSpec.upto commandOwnSpec)) commandOwnUptoCard

/-- THE SECOND FORM's CARD OF 'paliolaw17.CommandEntries'. -/
def commandEntriesUptoCard : Claim7 := { stood := { row := commandEntriesUptoRow, standIns := [], harness := (true, "2d80aaf668db7b5b825e8b00b4e4e6dfcfe5b7eb1c3a9da48b21fe7aaa1e60db"), looks := true }, kinds := [], alts := [], laidByText := true, laidKinds := [.handle], laidTests := true, laidLooks := .later }
def CommandEntriesUptoCardSaid : Prop := Claim7.holds Tryd.pinned (.plain (OpenSpec.upto commandEntriesSpec)) commandEntriesUptoCard

/-- THE SECOND FORM's CARD OF 'paliolaw17.CommandCases'. -/
def commandCasesUptoCard : Claim7 := { stood := { row := commandCasesUptoRow, standIns := [], harness := (true, "2d80aaf668db7b5b825e8b00b4e4e6dfcfe5b7eb1c3a9da48b21fe7aaa1e60db"), looks := true }, kinds := [], alts := [], laidByText := true, laidKinds := [.handle], laidTests := true, laidLooks := .later }
def CommandCasesUptoCardSaid : Prop := Claim7.holds Tryd.pinned (.plain (OpenSpec.upto commandCasesSpec)) commandCasesUptoCard

/-- THE SECOND FORM's CARD OF 'paliolaw17.CommandLevels'. -/
def commandLevelsUptoCard : Claim7 := { stood := { row := commandLevelsUptoRow, standIns := [], harness := (true, "2d80aaf668db7b5b825e8b00b4e4e6dfcfe5b7eb1c3a9da48b21fe7aaa1e60db"), looks := true }, kinds := [], alts := [], laidByText := true, laidKinds := [.handle], laidTests := true, laidLooks := .later }
def CommandLevelsUptoCardSaid : Prop := Claim7.holds Tryd.pinned (.plain (OpenSpec.upto commandLevelsSpec)) commandLevelsUptoCard
end Rows
end Go.Proofs.YtegmbgjolnbgpaaDoor
