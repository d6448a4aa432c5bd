/-
  DERIVED. GIVEN WITH THE SEED: THE CARDS: each row of YteligkemohngiaaGreatDoorRows.lean that lists a variable, with what it lists TIED to the program's text (the seventh form; the later family's looks); each row that meets fmt, with fmt's text TOLD by the authors' own Lean function (tested against real Go, not proved from fmt's source: count such statements apart). THE CARD IS WHAT COUNTS. Prove the row's statement (the work); the ties are given (YteligkemohngiaaGreatDoorTie.lean); close each card by the builder's one call (the guide's Derived/Test/ToyasCard.lean, 'card_holds'). Laid BY PROGRAM, IN A SANDBOX (cutbox-door.mjs). By AI agents, Wed Nov 11 2026. No macro, syntax, notation, axiom, sorry.
-/
import Derived.Test.YteligkemohngiaaGreatDoorRows
import GoSem.ClaimSeven
namespace Go.Proofs.YteligkemohngiaaGreatDoor
namespace Rows

/-- THE TIED CARD OF 'tronagelaw24.ParseSums'. -/
def parseSumsCard : Claim7 := { stood := { row := parseSumsRow, standIns := [], harness := (true, "c39c73dd16b50439259ec06e6bc72084cb7e206c6827e52dcb5c4e3396403d67"), looks := true }, kinds := [], alts := [], laidByText := true, laidKinds := [.data, .data, .data, .data, .data, .widerDeep, .data, .pinned], laidTests := true, laidLooks := .later }
def ParseSumsCardSaid : Prop := Claim7.holds Tryz.pinned (.plain (OpenSpec.ofChange parseSumsSpec)) parseSumsCard

/-- THE TIED CARD OF 'tronagelaw24.ParseNone'. -/
def parseNoneCard : Claim7 := { stood := { row := parseNoneRow, standIns := [], harness := (true, "c39c73dd16b50439259ec06e6bc72084cb7e206c6827e52dcb5c4e3396403d67"), looks := true }, kinds := [], alts := [], laidByText := true, laidKinds := [.data, .data, .data, .data, .data, .widerDeep, .data, .pinned], laidTests := true, laidLooks := .later }
def ParseNoneCardSaid : Prop := Claim7.holds Tryz.pinned (.plain (OpenSpec.ofChange parseNoneSpec)) parseNoneCard

/-- THE SECOND FORM's CARD OF 'tronagelaw24.ParseSums'. -/
def parseSumsUptoCard : Claim7 := { stood := { row := parseSumsUptoRow, standIns := [], harness := (true, "c39c73dd16b50439259ec06e6bc72084cb7e206c6827e52dcb5c4e3396403d67"), looks := true }, kinds := [], alts := [], laidByText := true, laidKinds := [.data, .data, .data, .data, .data, .widerDeep, .data, .pinned], laidTests := true, laidLooks := .later }
def ParseSumsUptoCardSaid : Prop := Claim7.holds Tryz.pinned (.plain (OpenSpec.upto parseSumsSpec)) parseSumsUptoCard

/-- THE SECOND FORM's CARD OF 'tronagelaw24.ParseNone'. -/
def parseNoneUptoCard : Claim7 := { stood := { row := parseNoneUptoRow, standIns := [], harness := (true, "c39c73dd16b50439259ec06e6bc72084cb7e206c6827e52dcb5c4e3396403d67"), looks := true }, kinds := [], alts := [], laidByText := true, laidKinds := [.data, .data, .data, .data, .data, .widerDeep, .data, .pinned], laidTests := true, laidLooks := .later }
def ParseNoneUptoCardSaid : Prop := Claim7.holds Tryz.pinned (.plain (OpenSpec.upto parseNoneSpec)) parseNoneUptoCard
end Rows
end Go.Proofs.YteligkemohngiaaGreatDoor
