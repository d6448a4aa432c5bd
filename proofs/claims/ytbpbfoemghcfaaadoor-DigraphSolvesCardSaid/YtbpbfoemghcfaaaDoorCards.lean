/-
  DERIVED. GIVEN WITH THE SEED: THE CARDS: each row of YtbpbfoemghcfaaaDoorRows.lean that lists a variable, with what it lists TIED to the program's text (the seventh form; the later family's looks); each row that meets fmt, with fmt's text TOLD by the authors' own Lean function (tested against real Go, not proved from fmt's source: count such statements apart). THE CARD IS WHAT COUNTS. Prove the row's statement (the work); the ties are given (YtbpbfoemghcfaaaDoorTie.lean); close each card by the builder's one call (the guide's Derived/Test/ToyasCard.lean, 'card_holds'). Laid BY PROGRAM, IN A SANDBOX (cutbox-door.mjs). By AI agents, Wed Nov 11 2026. No macro, syntax, notation, axiom, sorry.
-/
import Derived.Test.YtbpbfoemghcfaaaDoorRows
import GoSem.ClaimSeven
namespace Go.Proofs.YtbpbfoemghcfaaaDoor
namespace Rows

/-- THE TIED CARD OF 'tronagelaw12.DigraphSolves'. -/
def digraphSolvesCard : Claim7 := { stood := { row := digraphSolvesRow, standIns := [], harness := (true, "1c99b108247981894d97034cd21648dc4563407e5c446407c0ce72a09c533225"), looks := false }, kinds := [], alts := [], laidByText := true, laidKinds := [.data], laidTests := true, laidLooks := .later }
def DigraphSolvesCardSaid : Prop := Claim7.holds Tryd.pinned (.plain (OpenSpec.ofChange digraphSolvesSpec)) digraphSolvesCard

/-- THE TIED CARD OF 'tronagelaw12.DigraphParts'. -/
def digraphPartsCard : Claim7 := { stood := { row := digraphPartsRow, standIns := [], harness := (true, "1c99b108247981894d97034cd21648dc4563407e5c446407c0ce72a09c533225"), looks := false }, kinds := [], alts := [], laidByText := true, laidKinds := [.data], laidTests := true, laidLooks := .later }
def DigraphPartsCardSaid : Prop := Claim7.holds Tryd.pinned (.plain (OpenSpec.ofChange digraphPartsSpec)) digraphPartsCard

/-- THE TIED CARD OF 'tronagelaw12.DigraphCloses'. -/
def digraphClosesCard : Claim7 := { stood := { row := digraphClosesRow, standIns := [], harness := (true, "1c99b108247981894d97034cd21648dc4563407e5c446407c0ce72a09c533225"), looks := false }, kinds := [], alts := [], laidByText := true, laidKinds := [.data], laidTests := true, laidLooks := .later }
def DigraphClosesCardSaid : Prop := Claim7.holds Tryd.pinned (.plain (OpenSpec.ofChange digraphClosesSpec)) digraphClosesCard

/-- THE TIED CARD OF 'tronagelaw12.DigraphLeast'. -/
def digraphLeastCard : Claim7 := { stood := { row := digraphLeastRow, standIns := [], harness := (true, "1c99b108247981894d97034cd21648dc4563407e5c446407c0ce72a09c533225"), looks := false }, kinds := [], alts := [], laidByText := true, laidKinds := [.data], laidTests := true, laidLooks := .later }
def DigraphLeastCardSaid : Prop := Claim7.holds Tryd.pinned (.plain (OpenSpec.ofChange digraphLeastSpec)) digraphLeastCard

/-- THE TIED CARD OF 'tronagelaw12.DigraphShared'. -/
def digraphSharedCard : Claim7 := { stood := { row := digraphSharedRow, standIns := [], harness := (true, "1c99b108247981894d97034cd21648dc4563407e5c446407c0ce72a09c533225"), looks := false }, kinds := [], alts := [], laidByText := true, laidKinds := [.data], laidTests := true, laidLooks := .later }
def DigraphSharedCardSaid : Prop := Claim7.holds Tryd.pinned (.plain (OpenSpec.ofChange digraphSharedSpec)) digraphSharedCard

/-- THE TIED CARD OF 'tronagelaw12.DigraphOwn'. -/
def digraphOwnCard : Claim7 := { stood := { row := digraphOwnRow, standIns := [], harness := (true, "1c99b108247981894d97034cd21648dc4563407e5c446407c0ce72a09c533225"), looks := false }, kinds := [], alts := [], laidByText := true, laidKinds := [.data], laidTests := true, laidLooks := .later }
def DigraphOwnCardSaid : Prop := Claim7.holds Tryd.pinned (.plain (OpenSpec.ofChange digraphOwnSpec)) digraphOwnCard

/-- THE SECOND FORM's CARD OF 'tronagelaw12.DigraphSolves'. -/
def digraphSolvesUptoCard : Claim7 := { stood := { row := digraphSolvesUptoRow, standIns := [], harness := (true, "1c99b108247981894d97034cd21648dc4563407e5c446407c0ce72a09c533225"), looks := false }, kinds := [], alts := [], laidByText := true, laidKinds := [.data], laidTests := true, laidLooks := .later }
def DigraphSolvesUptoCardSaid : Prop := Claim7.holds Tryd.pinned (.plain (OpenSpec.upto digraphSolvesSpec)) digraphSolvesUptoCard

/-- THE SECOND FORM's CARD OF 'tronagelaw12.DigraphParts'. -/
def digraphPartsUptoCard : Claim7 := { stood := { row := digraphPartsUptoRow, standIns := [], harness := (true, "1c99b108247981894d97034cd21648dc4563407e5c446407c0ce72a09c533225"), looks := false }, kinds := [], alts := [], laidByText := true, laidKinds := [.data], laidTests := true, laidLooks := .later }
def DigraphPartsUptoCardSaid : Prop := Claim7.holds Tryd.pinned (.plain (OpenSpec.upto digraphPartsSpec)) digraphPartsUptoCard

/-- THE SECOND FORM's CARD OF 'tronagelaw12.DigraphCloses'. -/
def digraphClosesUptoCard : Claim7 := { stood := { row := digraphClosesUptoRow, standIns := [], harness := (true, "1c99b108247981894d97034cd21648dc4563407e5c446407c0ce72a09c533225"), looks := false }, kinds := [], alts := [], laidByText := true, laidKinds := [.data], laidTests := true, laidLooks := .later }
def DigraphClosesUptoCardSaid : Prop := Claim7.holds Tryd.pinned (.plain (OpenSpec.upto digraphClosesSpec)) digraphClosesUptoCard

/-- THE SECOND FORM's CARD OF 'tronagelaw12.DigraphLeast'. -/
def digraphLeastUptoCard : Claim7 := { stood := { row := digraphLeastUptoRow, standIns := [], harness := (true, "1c99b108247981894d97034cd21648dc4563407e5c446407c0ce72a09c533225"), looks := false }, kinds := [], alts := [], laidByText := true, laidKinds := [.data], laidTests := true, laidLooks := .later }
def DigraphLeastUptoCardSaid : Prop := Claim7.holds Tryd.pinned (.plain (OpenSpec.upto digraphLeastSpec)) digraphLeastUptoCard

/-- THE SECOND FORM's CARD OF 'tronagelaw12.DigraphShared'. -/
def digraphSharedUptoCard : Claim7 := { stood := { row := digraphSharedUptoRow, standIns := [], harness := (true, "1c99b108247981894d97034cd21648dc4563407e5c446407c0ce72a09c533225"), looks := false }, kinds := [], alts := [], laidByText := true, laidKinds := [.data], laidTests := true, laidLooks := .later }
def DigraphSharedUptoCardSaid : Prop := Claim7.holds Tryd.pinned (.plain (OpenSpec.upto digraphSharedSpec)) digraphSharedUptoCard

/-- THE SECOND FORM's CARD OF 'tronagelaw12.DigraphOwn'. -/
def digraphOwnUptoCard : Claim7 := { stood := { row := digraphOwnUptoRow, standIns := [], harness := (true, "1c99b108247981894d97034cd21648dc4563407e5c446407c0ce72a09c533225"), looks := false }, kinds := [], alts := [], laidByText := true, laidKinds := [.data], laidTests := true, laidLooks := .later }
def DigraphOwnUptoCardSaid : Prop := Claim7.holds Tryd.pinned (.plain (OpenSpec.upto digraphOwnSpec)) digraphOwnUptoCard
end Rows
end Go.Proofs.YtbpbfoemghcfaaaDoor
