/-
  DERIVED. GIVEN WITH THE SEED: THE CARDS: each row of YtjcbbmjmhfimcaaDoorRows.lean that lists a variable, with what it lists TIED to the program's text (the seventh form; the later family's looks); each row that meets fmt, with fmt's text TOLD by the authors' own Lean function (tested against real Go, not proved from fmt's source: count such statements apart). THE CARD IS WHAT COUNTS. Prove the row's statement (the work); the ties are given (YtjcbbmjmhfimcaaDoorTie.lean); close each card by the builder's one call (the guide's Derived/Test/ToyasCard.lean, 'card_holds'). Laid BY PROGRAM, IN A SANDBOX (cutbox-door.mjs). By AI agents, Wed Nov 11 2026. No macro, syntax, notation, axiom, sorry.
-/
import Derived.Test.YtjcbbmjmhfimcaaDoorRows
import GoSem.ClaimSeven
namespace Go.Proofs.YtjcbbmjmhfimcaaDoor
namespace Rows

/-- THE TIED CARD OF 'paliolaw04.ParseInline'. -/
def parseInlineCard : Claim7 := { stood := { row := parseInlineRow, standIns := [], harness := (true, "856f9a5be224df807dfaf208c4f2432c1417f2951fc68604387b594b63521f9c"), looks := true }, kinds := [], alts := [], laidByText := true, laidKinds := [.handle], laidTests := true, laidLooks := .later }
def ParseInlineCardSaid : Prop := Claim7.holds Tryd.pinned (.plain (OpenSpec.ofChange parseInlineSpec)) parseInlineCard

/-- THE TIED CARD OF 'paliolaw04.ParsePieces'. -/
def parsePiecesCard : Claim7 := { stood := { row := parsePiecesRow, standIns := [], harness := (true, "856f9a5be224df807dfaf208c4f2432c1417f2951fc68604387b594b63521f9c"), looks := true }, kinds := [], alts := [], laidByText := true, laidKinds := [.handle], laidTests := true, laidLooks := .later }
def ParsePiecesCardSaid : Prop := Claim7.holds Tryd.pinned (.plain (OpenSpec.ofChange parsePiecesSpec)) parsePiecesCard

/-- THE TIED CARD OF 'paliolaw04.ParseWrong'. -/
def parseWrongCard : Claim7 := { stood := { row := parseWrongRow, standIns := [], harness := (true, "856f9a5be224df807dfaf208c4f2432c1417f2951fc68604387b594b63521f9c"), looks := true }, kinds := [], alts := [], laidByText := true, laidKinds := [.handle], laidTests := true, laidLooks := .later }
def ParseWrongCardSaid : Prop := Claim7.holds Tryd.pinned (.plain (OpenSpec.ofChange parseWrongSpec)) parseWrongCard

/-- THE TIED CARD OF 'paliolaw04.ParseBack'. -/
def parseBackCard : Claim7 := { stood := { row := parseBackRow, standIns := [], harness := (true, "856f9a5be224df807dfaf208c4f2432c1417f2951fc68604387b594b63521f9c"), looks := true }, kinds := [], alts := [], laidByText := true, laidKinds := [.data, .data, .data, .handle], laidTests := true, laidLooks := .later }
def ParseBackCardSaid : Prop := Claim7.holds Tryd.pinned (.plain (OpenSpec.ofChange parseBackSpec)) parseBackCard

/-- THE TIED CARD OF 'paliolaw04.ParseCounts'. -/
def parseCountsCard : Claim7 := { stood := { row := parseCountsRow, standIns := [], harness := (true, "856f9a5be224df807dfaf208c4f2432c1417f2951fc68604387b594b63521f9c"), looks := true }, kinds := [], alts := [], laidByText := true, laidKinds := [.data, .data, .data, .handle], laidTests := true, laidLooks := .later }
def ParseCountsCardSaid : Prop := Claim7.holds Tryd.pinned (.plain (OpenSpec.ofChange parseCountsSpec)) parseCountsCard

/-- THE SECOND FORM's CARD OF 'paliolaw04.ParseInline'. -/
def parseInlineUptoCard : Claim7 := { stood := { row := parseInlineUptoRow, standIns := [], harness := (true, "856f9a5be224df807dfaf208c4f2432c1417f2951fc68604387b594b63521f9c"), looks := true }, kinds := [], alts := [], laidByText := true, laidKinds := [.handle], laidTests := true, laidLooks := .later }
def ParseInlineUptoCardSaid : Prop := Claim7.holds Tryd.pinned (.plain (OpenSpec.upto parseInlineSpec)) parseInlineUptoCard

/-- THE SECOND FORM's CARD OF 'paliolaw04.ParsePieces'. -/
def parsePiecesUptoCard : Claim7 := { stood := { row := parsePiecesUptoRow, standIns := [], harness := (true, "856f9a5be224df807dfaf208c4f2432c1417f2951fc68604387b594b63521f9c"), looks := true }, kinds := [], alts := [], laidByText := true, laidKinds := [.handle], laidTests := true, laidLooks := .later }
def ParsePiecesUptoCardSaid : Prop := Claim7.holds Tryd.pinned (.plain (OpenSpec.upto parsePiecesSpec)) parsePiecesUptoCard

/-- THE SECOND FORM's CARD OF 'paliolaw04.ParseWrong'. -/
def parseWrongUptoCard : Claim7 := { stood := { row := parseWrongUptoRow, standIns := [], harness := (true, "856f9a5be224df807dfaf208c4f2432c1417f2951fc68604387b594b63521f9c"), looks := true }, kinds := [], alts := [], laidByText := true, laidKinds := [.handle], laidTests := true, laidLooks := .later }
def ParseWrongUptoCardSaid : Prop := Claim7.holds Tryd.pinned (.plain (OpenSpec.upto parseWrongSpec)) parseWrongUptoCard

/-- THE SECOND FORM's CARD OF 'paliolaw04.ParseBack'. -/
def parseBackUptoCard : Claim7 := { stood := { row := parseBackUptoRow, standIns := [], harness := (true, "856f9a5be224df807dfaf208c4f2432c1417f2951fc68604387b594b63521f9c"), looks := true }, kinds := [], alts := [], laidByText := true, laidKinds := [.data, .data, .data, .handle], laidTests := true, laidLooks := .later }
def ParseBackUptoCardSaid : Prop := Claim7.holds Tryd.pinned (.plain (OpenSpec.upto parseBackSpec)) parseBackUptoCard

/-- THE SECOND FORM's CARD OF 'paliolaw04.ParseCounts'. -/
def parseCountsUptoCard : Claim7 := { stood := { row := parseCountsUptoRow, standIns := [], harness := (true, "856f9a5be224df807dfaf208c4f2432c1417f2951fc68604387b594b63521f9c"), looks := true }, kinds := [], alts := [], laidByText := true, laidKinds := [.data, .data, .data, .handle], laidTests := true, laidLooks := .later }
def ParseCountsUptoCardSaid : Prop := Claim7.holds Tryd.pinned (.plain (OpenSpec.upto parseCountsSpec)) parseCountsUptoCard
end Rows
end Go.Proofs.YtjcbbmjmhfimcaaDoor
