/-
  DERIVED. GIVEN WITH THE SEED: THE CARDS: each row of YtnkmpgldbddnkaaDoorRows.lean that lists a variable, with what it lists TIED to the program's text (the seventh form; the later family's looks); each row that meets fmt, with fmt's text TOLD by the authors' own Lean function (tested against real Go, not proved from fmt's source: count such statements apart). THE CARD IS WHAT COUNTS. Prove the row's statement (the work); the ties are given (YtnkmpgldbddnkaaDoorTie.lean); close each card by the builder's one call (the guide's Derived/Test/ToyasCard.lean, 'card_holds'). Laid BY PROGRAM, IN A SANDBOX (cutbox-door.mjs). By AI agents, Wed Nov 11 2026. No macro, syntax, notation, axiom, sorry.
-/
import Derived.Test.YtnkmpgldbddnkaaDoorRows
import GoSem.ClaimSeven
namespace Go.Proofs.YtnkmpgldbddnkaaDoor
namespace Rows

/-- THE TIED CARD OF 'tronagelaw11.StatesQuota'. -/
def statesQuotaCard : Claim7 := { stood := { row := statesQuotaRow, standIns := [], harness := (true, "3da9f781a8a15def3727b5b011062f2791780e1137eb16bd243ff47137727bf7"), looks := false }, kinds := [], alts := [], laidByText := true, laidKinds := [.data, .data, .data], laidTests := true, laidLooks := .later }
def StatesQuotaCardSaid : Prop := Claim7.holds Tryd.pinned (.plain (OpenSpec.ofChange statesQuotaSpec)) statesQuotaCard

/-- THE TIED CARD OF 'tronagelaw11.StatesCloses'. -/
def statesClosesCard : Claim7 := { stood := { row := statesClosesRow, standIns := [], harness := (true, "3da9f781a8a15def3727b5b011062f2791780e1137eb16bd243ff47137727bf7"), looks := false }, kinds := [], alts := [], laidByText := true, laidKinds := [.data, .data, .data], laidTests := true, laidLooks := .later }
def StatesClosesCardSaid : Prop := Claim7.holds Tryd.pinned (.plain (OpenSpec.ofChange statesClosesSpec)) statesClosesCard

/-- THE TIED CARD OF 'tronagelaw11.StatesWalks'. -/
def statesWalksCard : Claim7 := { stood := { row := statesWalksRow, standIns := [], harness := (true, "3da9f781a8a15def3727b5b011062f2791780e1137eb16bd243ff47137727bf7"), looks := false }, kinds := [], alts := [], laidByText := true, laidKinds := [.data, .data, .data], laidTests := true, laidLooks := .later }
def StatesWalksCardSaid : Prop := Claim7.holds Tryd.pinned (.plain (OpenSpec.ofChange statesWalksSpec)) statesWalksCard

/-- THE TIED CARD OF 'tronagelaw11.StatesRules'. -/
def statesRulesCard : Claim7 := { stood := { row := statesRulesRow, standIns := [], harness := (true, "3da9f781a8a15def3727b5b011062f2791780e1137eb16bd243ff47137727bf7"), looks := false }, kinds := [], alts := [], laidByText := true, laidKinds := [.data, .data, .data], laidTests := true, laidLooks := .later }
def StatesRulesCardSaid : Prop := Claim7.holds Tryd.pinned (.plain (OpenSpec.ofChange statesRulesSpec)) statesRulesCard

/-- THE TIED CARD OF 'tronagelaw11.StatesApart'. -/
def statesApartCard : Claim7 := { stood := { row := statesApartRow, standIns := [], harness := (true, "3da9f781a8a15def3727b5b011062f2791780e1137eb16bd243ff47137727bf7"), looks := false }, kinds := [], alts := [], laidByText := true, laidKinds := [.data, .data, .data], laidTests := true, laidLooks := .later }
def StatesApartCardSaid : Prop := Claim7.holds Tryd.pinned (.plain (OpenSpec.ofChange statesApartSpec)) statesApartCard

/-- THE SECOND FORM's CARD OF 'tronagelaw11.StatesQuota'. -/
def statesQuotaUptoCard : Claim7 := { stood := { row := statesQuotaUptoRow, standIns := [], harness := (true, "3da9f781a8a15def3727b5b011062f2791780e1137eb16bd243ff47137727bf7"), looks := false }, kinds := [], alts := [], laidByText := true, laidKinds := [.data, .data, .data], laidTests := true, laidLooks := .later }
def StatesQuotaUptoCardSaid : Prop := Claim7.holds Tryd.pinned (.plain (OpenSpec.upto statesQuotaSpec)) statesQuotaUptoCard

/-- THE SECOND FORM's CARD OF 'tronagelaw11.StatesCloses'. -/
def statesClosesUptoCard : Claim7 := { stood := { row := statesClosesUptoRow, standIns := [], harness := (true, "3da9f781a8a15def3727b5b011062f2791780e1137eb16bd243ff47137727bf7"), looks := false }, kinds := [], alts := [], laidByText := true, laidKinds := [.data, .data, .data], laidTests := true, laidLooks := .later }
def StatesClosesUptoCardSaid : Prop := Claim7.holds Tryd.pinned (.plain (OpenSpec.upto statesClosesSpec)) statesClosesUptoCard

/-- THE SECOND FORM's CARD OF 'tronagelaw11.StatesWalks'. -/
def statesWalksUptoCard : Claim7 := { stood := { row := statesWalksUptoRow, standIns := [], harness := (true, "3da9f781a8a15def3727b5b011062f2791780e1137eb16bd243ff47137727bf7"), looks := false }, kinds := [], alts := [], laidByText := true, laidKinds := [.data, .data, .data], laidTests := true, laidLooks := .later }
def StatesWalksUptoCardSaid : Prop := Claim7.holds Tryd.pinned (.plain (OpenSpec.upto statesWalksSpec)) statesWalksUptoCard

/-- THE SECOND FORM's CARD OF 'tronagelaw11.StatesRules'. -/
def statesRulesUptoCard : Claim7 := { stood := { row := statesRulesUptoRow, standIns := [], harness := (true, "3da9f781a8a15def3727b5b011062f2791780e1137eb16bd243ff47137727bf7"), looks := false }, kinds := [], alts := [], laidByText := true, laidKinds := [.data, .data, .data], laidTests := true, laidLooks := .later }
def StatesRulesUptoCardSaid : Prop := Claim7.holds Tryd.pinned (.plain (OpenSpec.upto statesRulesSpec)) statesRulesUptoCard

/-- THE SECOND FORM's CARD OF 'tronagelaw11.StatesApart'. -/
def statesApartUptoCard : Claim7 := { stood := { row := statesApartUptoRow, standIns := [], harness := (true, "3da9f781a8a15def3727b5b011062f2791780e1137eb16bd243ff47137727bf7"), looks := false }, kinds := [], alts := [], laidByText := true, laidKinds := [.data, .data, .data], laidTests := true, laidLooks := .later }
def StatesApartUptoCardSaid : Prop := Claim7.holds Tryd.pinned (.plain (OpenSpec.upto statesApartSpec)) statesApartUptoCard
end Rows
end Go.Proofs.YtnkmpgldbddnkaaDoor
