/-
  DERIVED. GIVEN WITH THE SEED: THE CARDS: each row of YtbhgpaeaaembjaaDoorRows.lean that lists a variable, with what it lists TIED to the program's text (the seventh form; the later family's looks); each row that meets fmt, with fmt's text TOLD by the authors' own Lean function (tested against real Go, not proved from fmt's source: count such statements apart). THE CARD IS WHAT COUNTS. Prove the row's statement (the work); the ties are given (YtbhgpaeaaembjaaDoorTie.lean); close each card by the builder's one call (the guide's Derived/Test/ToyasCard.lean, 'card_holds'). Laid BY PROGRAM, IN A SANDBOX (cutbox-door.mjs). By AI agents, Wed Nov 11 2026. No macro, syntax, notation, axiom, sorry.
-/
import Derived.Test.YtbhgpaeaaembjaaDoorRows
import GoSem.ClaimSeven
namespace Go.Proofs.YtbhgpaeaaembjaaDoor
namespace Rows

/-- THE TIED CARD OF 'paliolaw01.IntsParse'. -/
def intsParseCard : Claim7 := { stood := { row := intsParseRow, standIns := [], harness := (true, "4e896ca84aa5f09b4860bea62758bb656c5dbf83a20847021ed88e3c25479be5"), looks := true }, kinds := [], alts := [], laidByText := true, laidKinds := [.data, .data, .data], laidTests := true, laidLooks := .later }
def IntsParseCardSaid : Prop := Claim7.holds Tryd.pinned (.plain (OpenSpec.ofChange intsParseSpec)) intsParseCard

/-- THE TIED CARD OF 'paliolaw01.IntsBack'. -/
def intsBackCard : Claim7 := { stood := { row := intsBackRow, standIns := [], harness := (true, "4e896ca84aa5f09b4860bea62758bb656c5dbf83a20847021ed88e3c25479be5"), looks := true }, kinds := [], alts := [], laidByText := true, laidKinds := [.data, .data, .data], laidTests := true, laidLooks := .later }
def IntsBackCardSaid : Prop := Claim7.holds Tryd.pinned (.plain (OpenSpec.ofChange intsBackSpec)) intsBackCard

/-- THE SECOND FORM's CARD OF 'paliolaw01.IntsParse'. -/
def intsParseUptoCard : Claim7 := { stood := { row := intsParseUptoRow, standIns := [], harness := (true, "4e896ca84aa5f09b4860bea62758bb656c5dbf83a20847021ed88e3c25479be5"), looks := true }, kinds := [], alts := [], laidByText := true, laidKinds := [.data, .data, .data], laidTests := true, laidLooks := .later }
def IntsParseUptoCardSaid : Prop := Claim7.holds Tryd.pinned (.plain (OpenSpec.upto intsParseSpec)) intsParseUptoCard

/-- THE SECOND FORM's CARD OF 'paliolaw01.IntsBack'. -/
def intsBackUptoCard : Claim7 := { stood := { row := intsBackUptoRow, standIns := [], harness := (true, "4e896ca84aa5f09b4860bea62758bb656c5dbf83a20847021ed88e3c25479be5"), looks := true }, kinds := [], alts := [], laidByText := true, laidKinds := [.data, .data, .data], laidTests := true, laidLooks := .later }
def IntsBackUptoCardSaid : Prop := Claim7.holds Tryd.pinned (.plain (OpenSpec.upto intsBackSpec)) intsBackUptoCard
end Rows
end Go.Proofs.YtbhgpaeaaembjaaDoor
