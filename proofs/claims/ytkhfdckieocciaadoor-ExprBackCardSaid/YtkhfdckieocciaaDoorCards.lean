/-
  DERIVED. GIVEN WITH THE SEED: THE CARDS: each row of YtkhfdckieocciaaDoorRows.lean that lists a variable, with what it lists TIED to the program's text (the seventh form; the later family's looks); each row that meets fmt, with fmt's text TOLD by the authors' own Lean function (tested against real Go, not proved from fmt's source: count such statements apart). THE CARD IS WHAT COUNTS. Prove the row's statement (the work); the ties are given (YtkhfdckieocciaaDoorTie.lean); close each card by the builder's one call (the guide's Derived/Test/ToyasCard.lean, 'card_holds'). Laid BY PROGRAM, IN A SANDBOX (cutbox-door.mjs). By AI agents, Wed Nov 11 2026. No macro, syntax, notation, axiom, sorry.
-/
import Derived.Test.YtkhfdckieocciaaDoorRows
import GoSem.ClaimSeven
namespace Go.Proofs.YtkhfdckieocciaaDoor
namespace Rows

/-- THE TIED CARD OF 'tronagelaw20.ExprReads'. -/
def exprReadsCard : Claim7 := { stood := { row := exprReadsRow, standIns := [], harness := (true, "9e2c59b261d8b1c9f722733a115a055e03f213d6aee1df2f2fbc0c0c2110faf5"), looks := true }, kinds := [], alts := [], laidByText := true, laidKinds := [.data, .data, .data], laidTests := true, laidLooks := .later }
def ExprReadsCardSaid : Prop := Claim7.holds Tryd.pinned (.plain (OpenSpec.ofChange exprReadsSpec)) exprReadsCard

/-- THE TIED CARD OF 'tronagelaw20.ExprSpaces'. -/
def exprSpacesCard : Claim7 := { stood := { row := exprSpacesRow, standIns := [], harness := (true, "9e2c59b261d8b1c9f722733a115a055e03f213d6aee1df2f2fbc0c0c2110faf5"), looks := true }, kinds := [], alts := [], laidByText := true, laidKinds := [.data, .data, .data], laidTests := true, laidLooks := .later }
def ExprSpacesCardSaid : Prop := Claim7.holds Tryd.pinned (.plain (OpenSpec.ofChange exprSpacesSpec)) exprSpacesCard

/-- THE TIED CARD OF 'tronagelaw20.ExprOrder'. -/
def exprOrderCard : Claim7 := { stood := { row := exprOrderRow, standIns := [], harness := (true, "9e2c59b261d8b1c9f722733a115a055e03f213d6aee1df2f2fbc0c0c2110faf5"), looks := true }, kinds := [], alts := [], laidByText := true, laidKinds := [.data, .data, .data], laidTests := true, laidLooks := .later }
def ExprOrderCardSaid : Prop := Claim7.holds Tryd.pinned (.plain (OpenSpec.ofChange exprOrderSpec)) exprOrderCard

/-- THE TIED CARD OF 'tronagelaw20.ExprDeep'. -/
def exprDeepCard : Claim7 := { stood := { row := exprDeepRow, standIns := [], harness := (true, "9e2c59b261d8b1c9f722733a115a055e03f213d6aee1df2f2fbc0c0c2110faf5"), looks := true }, kinds := [], alts := [], laidByText := true, laidKinds := [.data, .data, .data], laidTests := true, laidLooks := .later }
def ExprDeepCardSaid : Prop := Claim7.holds Tryd.pinned (.plain (OpenSpec.ofChange exprDeepSpec)) exprDeepCard

/-- THE TIED CARD OF 'tronagelaw20.ExprTells'. -/
def exprTellsCard : Claim7 := { stood := { row := exprTellsRow, standIns := [], harness := (true, "9e2c59b261d8b1c9f722733a115a055e03f213d6aee1df2f2fbc0c0c2110faf5"), looks := true }, kinds := [], alts := [], laidByText := true, laidKinds := [.data, .data, .data], laidTests := true, laidLooks := .later }
def ExprTellsCardSaid : Prop := Claim7.holds Tryd.pinned (.plain (OpenSpec.ofChange exprTellsSpec)) exprTellsCard

/-- THE TIED CARD OF 'tronagelaw20.ExprBack'. -/
def exprBackCard : Claim7 := { stood := { row := exprBackRow, standIns := [], harness := (true, "9e2c59b261d8b1c9f722733a115a055e03f213d6aee1df2f2fbc0c0c2110faf5"), looks := true }, kinds := [], alts := [], laidByText := true, laidKinds := [.data, .data, .data], laidTests := true, laidLooks := .later }
def ExprBackCardSaid : Prop := Claim7.holds Tryd.pinned (.plain (OpenSpec.ofChange exprBackSpec)) exprBackCard

/-- THE TIED CARD OF 'tronagelaw20.ExprAgain'. -/
def exprAgainCard : Claim7 := { stood := { row := exprAgainRow, standIns := [], harness := (true, "9e2c59b261d8b1c9f722733a115a055e03f213d6aee1df2f2fbc0c0c2110faf5"), looks := true }, kinds := [], alts := [], laidByText := true, laidKinds := [.data, .data, .data], laidTests := true, laidLooks := .later }
def ExprAgainCardSaid : Prop := Claim7.holds Tryd.pinned (.plain (OpenSpec.ofChange exprAgainSpec)) exprAgainCard

/-- THE SECOND FORM's CARD OF 'tronagelaw20.ExprReads'. -/
def exprReadsUptoCard : Claim7 := { stood := { row := exprReadsUptoRow, standIns := [], harness := (true, "9e2c59b261d8b1c9f722733a115a055e03f213d6aee1df2f2fbc0c0c2110faf5"), looks := true }, kinds := [], alts := [], laidByText := true, laidKinds := [.data, .data, .data], laidTests := true, laidLooks := .later }
def ExprReadsUptoCardSaid : Prop := Claim7.holds Tryd.pinned (.plain (OpenSpec.upto exprReadsSpec)) exprReadsUptoCard

/-- THE SECOND FORM's CARD OF 'tronagelaw20.ExprSpaces'. -/
def exprSpacesUptoCard : Claim7 := { stood := { row := exprSpacesUptoRow, standIns := [], harness := (true, "9e2c59b261d8b1c9f722733a115a055e03f213d6aee1df2f2fbc0c0c2110faf5"), looks := true }, kinds := [], alts := [], laidByText := true, laidKinds := [.data, .data, .data], laidTests := true, laidLooks := .later }
def ExprSpacesUptoCardSaid : Prop := Claim7.holds Tryd.pinned (.plain (OpenSpec.upto exprSpacesSpec)) exprSpacesUptoCard

/-- THE SECOND FORM's CARD OF 'tronagelaw20.ExprOrder'. -/
def exprOrderUptoCard : Claim7 := { stood := { row := exprOrderUptoRow, standIns := [], harness := (true, "9e2c59b261d8b1c9f722733a115a055e03f213d6aee1df2f2fbc0c0c2110faf5"), looks := true }, kinds := [], alts := [], laidByText := true, laidKinds := [.data, .data, .data], laidTests := true, laidLooks := .later }
def ExprOrderUptoCardSaid : Prop := Claim7.holds Tryd.pinned (.plain (OpenSpec.upto exprOrderSpec)) exprOrderUptoCard

/-- THE SECOND FORM's CARD OF 'tronagelaw20.ExprDeep'. -/
def exprDeepUptoCard : Claim7 := { stood := { row := exprDeepUptoRow, standIns := [], harness := (true, "9e2c59b261d8b1c9f722733a115a055e03f213d6aee1df2f2fbc0c0c2110faf5"), looks := true }, kinds := [], alts := [], laidByText := true, laidKinds := [.data, .data, .data], laidTests := true, laidLooks := .later }
def ExprDeepUptoCardSaid : Prop := Claim7.holds Tryd.pinned (.plain (OpenSpec.upto exprDeepSpec)) exprDeepUptoCard

/-- THE SECOND FORM's CARD OF 'tronagelaw20.ExprTells'. -/
def exprTellsUptoCard : Claim7 := { stood := { row := exprTellsUptoRow, standIns := [], harness := (true, "9e2c59b261d8b1c9f722733a115a055e03f213d6aee1df2f2fbc0c0c2110faf5"), looks := true }, kinds := [], alts := [], laidByText := true, laidKinds := [.data, .data, .data], laidTests := true, laidLooks := .later }
def ExprTellsUptoCardSaid : Prop := Claim7.holds Tryd.pinned (.plain (OpenSpec.upto exprTellsSpec)) exprTellsUptoCard

/-- THE SECOND FORM's CARD OF 'tronagelaw20.ExprBack'. -/
def exprBackUptoCard : Claim7 := { stood := { row := exprBackUptoRow, standIns := [], harness := (true, "9e2c59b261d8b1c9f722733a115a055e03f213d6aee1df2f2fbc0c0c2110faf5"), looks := true }, kinds := [], alts := [], laidByText := true, laidKinds := [.data, .data, .data], laidTests := true, laidLooks := .later }
def ExprBackUptoCardSaid : Prop := Claim7.holds Tryd.pinned (.plain (OpenSpec.upto exprBackSpec)) exprBackUptoCard

/-- THE SECOND FORM's CARD OF 'tronagelaw20.ExprAgain'. -/
def exprAgainUptoCard : Claim7 := { stood := { row := exprAgainUptoRow, standIns := [], harness := (true, "9e2c59b261d8b1c9f722733a115a055e03f213d6aee1df2f2fbc0c0c2110faf5"), looks := true }, kinds := [], alts := [], laidByText := true, laidKinds := [.data, .data, .data], laidTests := true, laidLooks := .later }
def ExprAgainUptoCardSaid : Prop := Claim7.holds Tryd.pinned (.plain (OpenSpec.upto exprAgainSpec)) exprAgainUptoCard
end Rows
end Go.Proofs.YtkhfdckieocciaaDoor
