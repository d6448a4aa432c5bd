/-
  DERIVED. GIVEN WITH THE SEED: THE CARDS: each row of YtklamaeccniblaaDoorRows.lean that lists a variable, with what it lists TIED to the program's text (the seventh form; the later family's looks); each row that meets fmt, with fmt's text TOLD by the authors' own Lean function (tested against real Go, not proved from fmt's source: count such statements apart). THE CARD IS WHAT COUNTS. Prove the row's statement (the work); the ties are given (YtklamaeccniblaaDoorTie.lean); close each card by the builder's one call (the guide's Derived/Test/ToyasCard.lean, 'card_holds'). Laid BY PROGRAM, IN A SANDBOX (cutbox-door.mjs). By AI agents, Wed Nov 11 2026. No macro, syntax, notation, axiom, sorry.
-/
import Derived.Test.YtklamaeccniblaaDoorRows
import GoSem.ClaimSeven
namespace Go.Proofs.YtklamaeccniblaaDoor
namespace Rows

/-- THE TIED CARD OF 'tronagelaw15.TableShares'. -/
def tableSharesCard : Claim7 := { stood := { row := tableSharesRow, standIns := [], harness := (true, "f33fac36a957ccf02a1fdf3c6ce921497413fd0155be7dd213f8f83e225830ae"), looks := false }, kinds := [], alts := [], laidByText := true, laidKinds := [.data, .data, .data], laidTests := true, laidLooks := .later }
def TableSharesCardSaid : Prop := Claim7.holds Tryd.pinned (.plain (OpenSpec.ofChange tableSharesSpec)) tableSharesCard

/-- THE TIED CARD OF 'tronagelaw15.TableFits'. -/
def tableFitsCard : Claim7 := { stood := { row := tableFitsRow, standIns := [], harness := (true, "f33fac36a957ccf02a1fdf3c6ce921497413fd0155be7dd213f8f83e225830ae"), looks := false }, kinds := [], alts := [], laidByText := true, laidKinds := [.data, .data, .data], laidTests := true, laidLooks := .later }
def TableFitsCardSaid : Prop := Claim7.holds Tryd.pinned (.plain (OpenSpec.ofChange tableFitsSpec)) tableFitsCard

/-- THE TIED CARD OF 'tronagelaw15.TableGoesOn'. -/
def tableGoesOnCard : Claim7 := { stood := { row := tableGoesOnRow, standIns := [], harness := (true, "f33fac36a957ccf02a1fdf3c6ce921497413fd0155be7dd213f8f83e225830ae"), looks := false }, kinds := [], alts := [], laidByText := true, laidKinds := [.data, .data, .data], laidTests := true, laidLooks := .later }
def TableGoesOnCardSaid : Prop := Claim7.holds Tryd.pinned (.plain (OpenSpec.ofChange tableGoesOnSpec)) tableGoesOnCard

/-- THE TIED CARD OF 'tronagelaw15.TablePacks'. -/
def tablePacksCard : Claim7 := { stood := { row := tablePacksRow, standIns := [], harness := (true, "f33fac36a957ccf02a1fdf3c6ce921497413fd0155be7dd213f8f83e225830ae"), looks := false }, kinds := [], alts := [], laidByText := true, laidKinds := [.data, .data, .data], laidTests := true, laidLooks := .later }
def TablePacksCardSaid : Prop := Claim7.holds Tryd.pinned (.plain (OpenSpec.ofChange tablePacksSpec)) tablePacksCard

/-- THE TIED CARD OF 'tronagelaw15.TableApart'. -/
def tableApartCard : Claim7 := { stood := { row := tableApartRow, standIns := [], harness := (true, "f33fac36a957ccf02a1fdf3c6ce921497413fd0155be7dd213f8f83e225830ae"), looks := false }, kinds := [], alts := [], laidByText := true, laidKinds := [.data, .data, .data], laidTests := true, laidLooks := .later }
def TableApartCardSaid : Prop := Claim7.holds Tryd.pinned (.plain (OpenSpec.ofChange tableApartSpec)) tableApartCard

/-- THE SECOND FORM's CARD OF 'tronagelaw15.TableShares'. -/
def tableSharesUptoCard : Claim7 := { stood := { row := tableSharesUptoRow, standIns := [], harness := (true, "f33fac36a957ccf02a1fdf3c6ce921497413fd0155be7dd213f8f83e225830ae"), looks := false }, kinds := [], alts := [], laidByText := true, laidKinds := [.data, .data, .data], laidTests := true, laidLooks := .later }
def TableSharesUptoCardSaid : Prop := Claim7.holds Tryd.pinned (.plain (OpenSpec.upto tableSharesSpec)) tableSharesUptoCard

/-- THE SECOND FORM's CARD OF 'tronagelaw15.TableFits'. -/
def tableFitsUptoCard : Claim7 := { stood := { row := tableFitsUptoRow, standIns := [], harness := (true, "f33fac36a957ccf02a1fdf3c6ce921497413fd0155be7dd213f8f83e225830ae"), looks := false }, kinds := [], alts := [], laidByText := true, laidKinds := [.data, .data, .data], laidTests := true, laidLooks := .later }
def TableFitsUptoCardSaid : Prop := Claim7.holds Tryd.pinned (.plain (OpenSpec.upto tableFitsSpec)) tableFitsUptoCard

/-- THE SECOND FORM's CARD OF 'tronagelaw15.TableGoesOn'. -/
def tableGoesOnUptoCard : Claim7 := { stood := { row := tableGoesOnUptoRow, standIns := [], harness := (true, "f33fac36a957ccf02a1fdf3c6ce921497413fd0155be7dd213f8f83e225830ae"), looks := false }, kinds := [], alts := [], laidByText := true, laidKinds := [.data, .data, .data], laidTests := true, laidLooks := .later }
def TableGoesOnUptoCardSaid : Prop := Claim7.holds Tryd.pinned (.plain (OpenSpec.upto tableGoesOnSpec)) tableGoesOnUptoCard

/-- THE SECOND FORM's CARD OF 'tronagelaw15.TablePacks'. -/
def tablePacksUptoCard : Claim7 := { stood := { row := tablePacksUptoRow, standIns := [], harness := (true, "f33fac36a957ccf02a1fdf3c6ce921497413fd0155be7dd213f8f83e225830ae"), looks := false }, kinds := [], alts := [], laidByText := true, laidKinds := [.data, .data, .data], laidTests := true, laidLooks := .later }
def TablePacksUptoCardSaid : Prop := Claim7.holds Tryd.pinned (.plain (OpenSpec.upto tablePacksSpec)) tablePacksUptoCard

/-- THE SECOND FORM's CARD OF 'tronagelaw15.TableApart'. -/
def tableApartUptoCard : Claim7 := { stood := { row := tableApartUptoRow, standIns := [], harness := (true, "f33fac36a957ccf02a1fdf3c6ce921497413fd0155be7dd213f8f83e225830ae"), looks := false }, kinds := [], alts := [], laidByText := true, laidKinds := [.data, .data, .data], laidTests := true, laidLooks := .later }
def TableApartUptoCardSaid : Prop := Claim7.holds Tryd.pinned (.plain (OpenSpec.upto tableApartSpec)) tableApartUptoCard
end Rows
end Go.Proofs.YtklamaeccniblaaDoor
