/-
  DERIVED. GIVEN WITH THE SEED: THE CARDS: each row of YteoafgapjneblaaGreatDoorRows.lean that lists a variable, with what it lists TIED to the program's text (the seventh form; the later family's looks); each row that meets fmt, with fmt's text TOLD by the authors' own Lean function (tested against real Go, not proved from fmt's source: count such statements apart). THE CARD IS WHAT COUNTS. Prove the row's statement (the work); the ties are given (YteoafgapjneblaaGreatDoorTie.lean); close each card by the builder's one call (the guide's Derived/Test/ToyasCard.lean, 'card_holds'). Laid BY PROGRAM, IN A SANDBOX (cutbox-door.mjs). By AI agents, Wed Nov 11 2026. No macro, syntax, notation, axiom, sorry.
-/
import Derived.Test.YteoafgapjneblaaGreatDoorRows
import GoSem.ClaimSeven
namespace Go.Proofs.YteoafgapjneblaaGreatDoor
namespace Rows

/-- THE TIED CARD OF 'tronagelaw11.StatesTell'. -/
def statesTellCard : Claim7 := { stood := { row := statesTellRow, standIns := [], harness := (true, "dbd300628d99ec22e7cd188a688fc44ad6a8c9503cfc3446d6f8ceb93e1e47d8"), looks := false }, kinds := [], alts := [], laidByText := true, laidKinds := [.data, .data, .data], laidTests := true, laidLooks := .later }
def StatesTellCardSaid : Prop := Claim7.holds Tryz.pinned (.plain (OpenSpec.ofChange statesTellSpec)) statesTellCard

/-- THE SECOND FORM's CARD OF 'tronagelaw11.StatesTell'. -/
def statesTellUptoCard : Claim7 := { stood := { row := statesTellUptoRow, standIns := [], harness := (true, "dbd300628d99ec22e7cd188a688fc44ad6a8c9503cfc3446d6f8ceb93e1e47d8"), looks := false }, kinds := [], alts := [], laidByText := true, laidKinds := [.data, .data, .data], laidTests := true, laidLooks := .later }
def StatesTellUptoCardSaid : Prop := Claim7.holds Tryz.pinned (.plain (OpenSpec.upto statesTellSpec)) statesTellUptoCard
end Rows
end Go.Proofs.YteoafgapjneblaaGreatDoor
