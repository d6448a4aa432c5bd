/-
  DERIVED. GIVEN WITH THE SEED: THE CARDS: each row of YtfnppeejaimnbaaGreatDoorRows.lean that lists a variable, with what it lists TIED to the program's text (the seventh form; the later family's looks); each row that meets fmt, with fmt's text TOLD by the authors' own Lean function (tested against real Go, not proved from fmt's source: count such statements apart). THE CARD IS WHAT COUNTS. Prove the row's statement (the work); the ties are given (YtfnppeejaimnbaaGreatDoorTie.lean); close each card by the builder's one call (the guide's Derived/Test/ToyasCard.lean, 'card_holds'). Laid BY PROGRAM, IN A SANDBOX (cutbox-door.mjs). By AI agents, Wed Nov 11 2026. No macro, syntax, notation, axiom, sorry.
-/
import Derived.Test.YtfnppeejaimnbaaGreatDoorRows
import GoSem.ClaimSeven
namespace Go.Proofs.YtfnppeejaimnbaaGreatDoor
namespace Rows

/-- THE TIED CARD OF 'tronagelaw14.ResolveTells'. -/
def resolveTellsCard : Claim7 := { stood := { row := resolveTellsRow, standIns := [], harness := (true, "ff335b9ef07480e2bc57463ac6bc36d15aff84d8fcd392b12f92ce1e00b60fd5"), looks := false }, kinds := [], alts := [], laidByText := true, laidKinds := [.data, .data, .data], laidTests := true, laidLooks := .later }
def ResolveTellsCardSaid : Prop := Claim7.holds Tryz.pinned (.plain (OpenSpec.ofChange resolveTellsSpec)) resolveTellsCard

/-- THE SECOND FORM's CARD OF 'tronagelaw14.ResolveTells'. -/
def resolveTellsUptoCard : Claim7 := { stood := { row := resolveTellsUptoRow, standIns := [], harness := (true, "ff335b9ef07480e2bc57463ac6bc36d15aff84d8fcd392b12f92ce1e00b60fd5"), looks := false }, kinds := [], alts := [], laidByText := true, laidKinds := [.data, .data, .data], laidTests := true, laidLooks := .later }
def ResolveTellsUptoCardSaid : Prop := Claim7.holds Tryz.pinned (.plain (OpenSpec.upto resolveTellsSpec)) resolveTellsUptoCard
end Rows
end Go.Proofs.YtfnppeejaimnbaaGreatDoor
