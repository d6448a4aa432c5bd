/-
  DERIVED. GIVEN WITH THE SEED: THE CARDS: each row of YteolcjbobmpdiaaGreatDoorRows.lean that lists a variable, with what it lists TIED to the program's text (the seventh form; the later family's looks); each row that meets fmt, with fmt's text TOLD by the authors' own Lean function (tested against real Go, not proved from fmt's source: count such statements apart). THE CARD IS WHAT COUNTS. Prove the row's statement (the work); the ties are given (YteolcjbobmpdiaaGreatDoorTie.lean); close each card by the builder's one call (the guide's Derived/Test/ToyasCard.lean, 'card_holds'). Laid BY PROGRAM, IN A SANDBOX (cutbox-door.mjs). By AI agents, Wed Nov 11 2026. No macro, syntax, notation, axiom, sorry.
-/
import Derived.Test.YteolcjbobmpdiaaGreatDoorRows
import GoSem.ClaimSeven
namespace Go.Proofs.YteolcjbobmpdiaaGreatDoor
namespace Rows

/-- THE TIED CARD OF 'tronagelaw13.LookTells'. -/
def lookTellsCard : Claim7 := { stood := { row := lookTellsRow, standIns := [], harness := (true, "bf17e48b8ed4ffdd0a33512e5408d799c38fee476c07da80494f9fdfd7a48b23"), looks := false }, kinds := [], alts := [], laidByText := true, laidKinds := [.data, .data, .data], laidTests := true, laidLooks := .later }
def LookTellsCardSaid : Prop := Claim7.holds Tryz.pinned (.plain (OpenSpec.ofChange lookTellsSpec)) lookTellsCard

/-- THE TIED CARD OF 'tronagelaw13.LookFollows'. -/
def lookFollowsCard : Claim7 := { stood := { row := lookFollowsRow, standIns := [], harness := (true, "bf17e48b8ed4ffdd0a33512e5408d799c38fee476c07da80494f9fdfd7a48b23"), looks := false }, kinds := [], alts := [], laidByText := true, laidKinds := [.data, .data, .data], laidTests := true, laidLooks := .later }
def LookFollowsCardSaid : Prop := Claim7.holds Tryz.pinned (.plain (OpenSpec.ofChange lookFollowsSpec)) lookFollowsCard

/-- THE TIED CARD OF 'tronagelaw13.LookDone'. -/
def lookDoneCard : Claim7 := { stood := { row := lookDoneRow, standIns := [], harness := (true, "bf17e48b8ed4ffdd0a33512e5408d799c38fee476c07da80494f9fdfd7a48b23"), looks := false }, kinds := [], alts := [], laidByText := true, laidKinds := [.data, .data, .data], laidTests := true, laidLooks := .later }
def LookDoneCardSaid : Prop := Claim7.holds Tryz.pinned (.plain (OpenSpec.ofChange lookDoneSpec)) lookDoneCard

/-- THE TIED CARD OF 'tronagelaw13.LookGoes'. -/
def lookGoesCard : Claim7 := { stood := { row := lookGoesRow, standIns := [], harness := (true, "bf17e48b8ed4ffdd0a33512e5408d799c38fee476c07da80494f9fdfd7a48b23"), looks := false }, kinds := [], alts := [], laidByText := true, laidKinds := [.data, .data, .data], laidTests := true, laidLooks := .later }
def LookGoesCardSaid : Prop := Claim7.holds Tryz.pinned (.plain (OpenSpec.ofChange lookGoesSpec)) lookGoesCard

/-- THE TIED CARD OF 'tronagelaw13.LookAll'. -/
def lookAllCard : Claim7 := { stood := { row := lookAllRow, standIns := [], harness := (true, "bf17e48b8ed4ffdd0a33512e5408d799c38fee476c07da80494f9fdfd7a48b23"), looks := false }, kinds := [], alts := [], laidByText := true, laidKinds := [.data, .data, .data], laidTests := true, laidLooks := .later }
def LookAllCardSaid : Prop := Claim7.holds Tryz.pinned (.plain (OpenSpec.ofChange lookAllSpec)) lookAllCard

/-- THE TIED CARD OF 'tronagelaw14.ResolveKeeps'. -/
def resolveKeepsCard : Claim7 := { stood := { row := resolveKeepsRow, standIns := [], harness := (true, "bf17e48b8ed4ffdd0a33512e5408d799c38fee476c07da80494f9fdfd7a48b23"), looks := false }, kinds := [], alts := [], laidByText := true, laidKinds := [.data, .data, .data], laidTests := true, laidLooks := .later }
def ResolveKeepsCardSaid : Prop := Claim7.holds Tryz.pinned (.plain (OpenSpec.ofChange resolveKeepsSpec)) resolveKeepsCard

/-- THE TIED CARD OF 'tronagelaw14.ResolveClashes'. -/
def resolveClashesCard : Claim7 := { stood := { row := resolveClashesRow, standIns := [], harness := (true, "bf17e48b8ed4ffdd0a33512e5408d799c38fee476c07da80494f9fdfd7a48b23"), looks := false }, kinds := [], alts := [], laidByText := true, laidKinds := [.data, .data, .data], laidTests := true, laidLooks := .later }
def ResolveClashesCardSaid : Prop := Claim7.holds Tryz.pinned (.plain (OpenSpec.ofChange resolveClashesSpec)) resolveClashesCard

/-- THE TIED CARD OF 'tronagelaw14.ResolveLevels'. -/
def resolveLevelsCard : Claim7 := { stood := { row := resolveLevelsRow, standIns := [], harness := (true, "bf17e48b8ed4ffdd0a33512e5408d799c38fee476c07da80494f9fdfd7a48b23"), looks := false }, kinds := [], alts := [], laidByText := true, laidKinds := [.data, .data, .data], laidTests := true, laidLooks := .later }
def ResolveLevelsCardSaid : Prop := Claim7.holds Tryz.pinned (.plain (OpenSpec.ofChange resolveLevelsSpec)) resolveLevelsCard

/-- THE TIED CARD OF 'tronagelaw14.ResolveAssocs'. -/
def resolveAssocsCard : Claim7 := { stood := { row := resolveAssocsRow, standIns := [], harness := (true, "bf17e48b8ed4ffdd0a33512e5408d799c38fee476c07da80494f9fdfd7a48b23"), looks := false }, kinds := [], alts := [], laidByText := true, laidKinds := [.data, .data, .data], laidTests := true, laidLooks := .later }
def ResolveAssocsCardSaid : Prop := Claim7.holds Tryz.pinned (.plain (OpenSpec.ofChange resolveAssocsSpec)) resolveAssocsCard

/-- THE TIED CARD OF 'tronagelaw14.ResolveTells'. -/
def resolveTellsCard : Claim7 := { stood := { row := resolveTellsRow, standIns := [], harness := (true, "bf17e48b8ed4ffdd0a33512e5408d799c38fee476c07da80494f9fdfd7a48b23"), looks := false }, kinds := [], alts := [], laidByText := true, laidKinds := [.data, .data, .data], laidTests := true, laidLooks := .later }
def ResolveTellsCardSaid : Prop := Claim7.holds Tryz.pinned (.plain (OpenSpec.ofChange resolveTellsSpec)) resolveTellsCard

/-- THE SECOND FORM's CARD OF 'tronagelaw13.LookTells'. -/
def lookTellsUptoCard : Claim7 := { stood := { row := lookTellsUptoRow, standIns := [], harness := (true, "bf17e48b8ed4ffdd0a33512e5408d799c38fee476c07da80494f9fdfd7a48b23"), looks := false }, kinds := [], alts := [], laidByText := true, laidKinds := [.data, .data, .data], laidTests := true, laidLooks := .later }
def LookTellsUptoCardSaid : Prop := Claim7.holds Tryz.pinned (.plain (OpenSpec.upto lookTellsSpec)) lookTellsUptoCard

/-- THE SECOND FORM's CARD OF 'tronagelaw13.LookFollows'. -/
def lookFollowsUptoCard : Claim7 := { stood := { row := lookFollowsUptoRow, standIns := [], harness := (true, "bf17e48b8ed4ffdd0a33512e5408d799c38fee476c07da80494f9fdfd7a48b23"), looks := false }, kinds := [], alts := [], laidByText := true, laidKinds := [.data, .data, .data], laidTests := true, laidLooks := .later }
def LookFollowsUptoCardSaid : Prop := Claim7.holds Tryz.pinned (.plain (OpenSpec.upto lookFollowsSpec)) lookFollowsUptoCard

/-- THE SECOND FORM's CARD OF 'tronagelaw13.LookDone'. -/
def lookDoneUptoCard : Claim7 := { stood := { row := lookDoneUptoRow, standIns := [], harness := (true, "bf17e48b8ed4ffdd0a33512e5408d799c38fee476c07da80494f9fdfd7a48b23"), looks := false }, kinds := [], alts := [], laidByText := true, laidKinds := [.data, .data, .data], laidTests := true, laidLooks := .later }
def LookDoneUptoCardSaid : Prop := Claim7.holds Tryz.pinned (.plain (OpenSpec.upto lookDoneSpec)) lookDoneUptoCard

/-- THE SECOND FORM's CARD OF 'tronagelaw13.LookGoes'. -/
def lookGoesUptoCard : Claim7 := { stood := { row := lookGoesUptoRow, standIns := [], harness := (true, "bf17e48b8ed4ffdd0a33512e5408d799c38fee476c07da80494f9fdfd7a48b23"), looks := false }, kinds := [], alts := [], laidByText := true, laidKinds := [.data, .data, .data], laidTests := true, laidLooks := .later }
def LookGoesUptoCardSaid : Prop := Claim7.holds Tryz.pinned (.plain (OpenSpec.upto lookGoesSpec)) lookGoesUptoCard

/-- THE SECOND FORM's CARD OF 'tronagelaw13.LookAll'. -/
def lookAllUptoCard : Claim7 := { stood := { row := lookAllUptoRow, standIns := [], harness := (true, "bf17e48b8ed4ffdd0a33512e5408d799c38fee476c07da80494f9fdfd7a48b23"), looks := false }, kinds := [], alts := [], laidByText := true, laidKinds := [.data, .data, .data], laidTests := true, laidLooks := .later }
def LookAllUptoCardSaid : Prop := Claim7.holds Tryz.pinned (.plain (OpenSpec.upto lookAllSpec)) lookAllUptoCard

/-- THE SECOND FORM's CARD OF 'tronagelaw14.ResolveKeeps'. -/
def resolveKeepsUptoCard : Claim7 := { stood := { row := resolveKeepsUptoRow, standIns := [], harness := (true, "bf17e48b8ed4ffdd0a33512e5408d799c38fee476c07da80494f9fdfd7a48b23"), looks := false }, kinds := [], alts := [], laidByText := true, laidKinds := [.data, .data, .data], laidTests := true, laidLooks := .later }
def ResolveKeepsUptoCardSaid : Prop := Claim7.holds Tryz.pinned (.plain (OpenSpec.upto resolveKeepsSpec)) resolveKeepsUptoCard

/-- THE SECOND FORM's CARD OF 'tronagelaw14.ResolveClashes'. -/
def resolveClashesUptoCard : Claim7 := { stood := { row := resolveClashesUptoRow, standIns := [], harness := (true, "bf17e48b8ed4ffdd0a33512e5408d799c38fee476c07da80494f9fdfd7a48b23"), looks := false }, kinds := [], alts := [], laidByText := true, laidKinds := [.data, .data, .data], laidTests := true, laidLooks := .later }
def ResolveClashesUptoCardSaid : Prop := Claim7.holds Tryz.pinned (.plain (OpenSpec.upto resolveClashesSpec)) resolveClashesUptoCard

/-- THE SECOND FORM's CARD OF 'tronagelaw14.ResolveLevels'. -/
def resolveLevelsUptoCard : Claim7 := { stood := { row := resolveLevelsUptoRow, standIns := [], harness := (true, "bf17e48b8ed4ffdd0a33512e5408d799c38fee476c07da80494f9fdfd7a48b23"), looks := false }, kinds := [], alts := [], laidByText := true, laidKinds := [.data, .data, .data], laidTests := true, laidLooks := .later }
def ResolveLevelsUptoCardSaid : Prop := Claim7.holds Tryz.pinned (.plain (OpenSpec.upto resolveLevelsSpec)) resolveLevelsUptoCard

/-- THE SECOND FORM's CARD OF 'tronagelaw14.ResolveAssocs'. -/
def resolveAssocsUptoCard : Claim7 := { stood := { row := resolveAssocsUptoRow, standIns := [], harness := (true, "bf17e48b8ed4ffdd0a33512e5408d799c38fee476c07da80494f9fdfd7a48b23"), looks := false }, kinds := [], alts := [], laidByText := true, laidKinds := [.data, .data, .data], laidTests := true, laidLooks := .later }
def ResolveAssocsUptoCardSaid : Prop := Claim7.holds Tryz.pinned (.plain (OpenSpec.upto resolveAssocsSpec)) resolveAssocsUptoCard

/-- THE SECOND FORM's CARD OF 'tronagelaw14.ResolveTells'. -/
def resolveTellsUptoCard : Claim7 := { stood := { row := resolveTellsUptoRow, standIns := [], harness := (true, "bf17e48b8ed4ffdd0a33512e5408d799c38fee476c07da80494f9fdfd7a48b23"), looks := false }, kinds := [], alts := [], laidByText := true, laidKinds := [.data, .data, .data], laidTests := true, laidLooks := .later }
def ResolveTellsUptoCardSaid : Prop := Claim7.holds Tryz.pinned (.plain (OpenSpec.upto resolveTellsSpec)) resolveTellsUptoCard
end Rows
end Go.Proofs.YteolcjbobmpdiaaGreatDoor
