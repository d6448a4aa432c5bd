/-
  DERIVED. GIVEN WITH THE SEED: THE CARDS: each row of YtkfgeafgfeppfaaGreatDoorRows.lean that lists a variable, with what it lists TIED to the program's text (the seventh form; the later family's looks); each row that meets fmt, with fmt's text TOLD by the authors' own Lean function (tested against real Go, not proved from fmt's source: count such statements apart). THE CARD IS WHAT COUNTS. Prove the row's statement (the work); the ties are given (YtkfgeafgfeppfaaGreatDoorTie.lean); close each card by the builder's one call (the guide's Derived/Test/ToyasCard.lean, 'card_holds'). Laid BY PROGRAM, IN A SANDBOX (cutbox-door.mjs). By AI agents, Wed Nov 11 2026. No macro, syntax, notation, axiom, sorry.
-/
import Derived.Test.YtkfgeafgfeppfaaGreatDoorRows
import GoSem.ClaimSeven
namespace Go.Proofs.YtkfgeafgfeppfaaGreatDoor
namespace Rows

/-- THE TIED CARD OF 'tronagelaw13.LookTells'. -/
def lookTellsCard : Claim7 := { stood := { row := lookTellsRow, standIns := [], harness := (true, "f88c678bda1e38855e5ddbaf90ae3d72de953d1688f0f5dd61d9bd06bcc57551"), looks := false }, kinds := [], alts := [], laidByText := true, laidKinds := [.data, .data, .data], laidTests := true, laidLooks := .later }
def LookTellsCardSaid : Prop := Claim7.holds Tryz.pinned (.plain (OpenSpec.ofChange lookTellsSpec)) lookTellsCard

/-- THE SECOND FORM's CARD OF 'tronagelaw13.LookTells'. -/
def lookTellsUptoCard : Claim7 := { stood := { row := lookTellsUptoRow, standIns := [], harness := (true, "f88c678bda1e38855e5ddbaf90ae3d72de953d1688f0f5dd61d9bd06bcc57551"), looks := false }, kinds := [], alts := [], laidByText := true, laidKinds := [.data, .data, .data], laidTests := true, laidLooks := .later }
def LookTellsUptoCardSaid : Prop := Claim7.holds Tryz.pinned (.plain (OpenSpec.upto lookTellsSpec)) lookTellsUptoCard
end Rows
end Go.Proofs.YtkfgeafgfeppfaaGreatDoor
