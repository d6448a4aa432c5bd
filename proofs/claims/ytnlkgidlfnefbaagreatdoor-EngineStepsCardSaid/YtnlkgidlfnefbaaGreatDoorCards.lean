/-
  DERIVED. GIVEN WITH THE SEED: THE CARDS: each row of YtnlkgidlfnefbaaGreatDoorRows.lean that lists a variable, with what it lists TIED to the program's text (the seventh form; the later family's looks); each row that meets fmt, with fmt's text TOLD by the authors' own Lean function (tested against real Go, not proved from fmt's source: count such statements apart). THE CARD IS WHAT COUNTS. Prove the row's statement (the work); the ties are given (YtnlkgidlfnefbaaGreatDoorTie.lean); close each card by the builder's one call (the guide's Derived/Test/ToyasCard.lean, 'card_holds'). Laid BY PROGRAM, IN A SANDBOX (cutbox-door.mjs). By AI agents, Wed Nov 11 2026. No macro, syntax, notation, axiom, sorry.
-/
import Derived.Test.YtnlkgidlfnefbaaGreatDoorRows
import GoSem.ClaimSeven
namespace Go.Proofs.YtnlkgidlfnefbaaGreatDoor
namespace Rows

/-- THE TIED CARD OF 'tronagelaw19.EngineQuotas'. -/
def engineQuotasCard : Claim7 := { stood := { row := engineQuotasRow, standIns := [], harness := (true, "f019892325069f57308cafdd51acc6e2405f678b2e86c0e999b9d1e79f45995a"), looks := false }, kinds := [], alts := [], laidByText := true, laidKinds := [.data, .data, .data], laidTests := true, laidLooks := .later }
def EngineQuotasCardSaid : Prop := Claim7.holds Tryz.pinned (.plain (OpenSpec.ofChange engineQuotasSpec)) engineQuotasCard

/-- THE TIED CARD OF 'tronagelaw19.EngineSteps'. -/
def engineStepsCard : Claim7 := { stood := { row := engineStepsRow, standIns := [], harness := (true, "f019892325069f57308cafdd51acc6e2405f678b2e86c0e999b9d1e79f45995a"), looks := false }, kinds := [], alts := [], laidByText := true, laidKinds := [.data, .data, .data], laidTests := true, laidLooks := .later }
def EngineStepsCardSaid : Prop := Claim7.holds Tryz.pinned (.plain (OpenSpec.ofChange engineStepsSpec)) engineStepsCard

/-- THE TIED CARD OF 'tronagelaw19.EngineTrees'. -/
def engineTreesCard : Claim7 := { stood := { row := engineTreesRow, standIns := [], harness := (true, "f019892325069f57308cafdd51acc6e2405f678b2e86c0e999b9d1e79f45995a"), looks := false }, kinds := [], alts := [], laidByText := true, laidKinds := [.data, .data, .data], laidTests := true, laidLooks := .later }
def EngineTreesCardSaid : Prop := Claim7.holds Tryz.pinned (.plain (OpenSpec.ofChange engineTreesSpec)) engineTreesCard

/-- THE SECOND FORM's CARD OF 'tronagelaw19.EngineQuotas'. -/
def engineQuotasUptoCard : Claim7 := { stood := { row := engineQuotasUptoRow, standIns := [], harness := (true, "f019892325069f57308cafdd51acc6e2405f678b2e86c0e999b9d1e79f45995a"), looks := false }, kinds := [], alts := [], laidByText := true, laidKinds := [.data, .data, .data], laidTests := true, laidLooks := .later }
def EngineQuotasUptoCardSaid : Prop := Claim7.holds Tryz.pinned (.plain (OpenSpec.upto engineQuotasSpec)) engineQuotasUptoCard

/-- THE SECOND FORM's CARD OF 'tronagelaw19.EngineSteps'. -/
def engineStepsUptoCard : Claim7 := { stood := { row := engineStepsUptoRow, standIns := [], harness := (true, "f019892325069f57308cafdd51acc6e2405f678b2e86c0e999b9d1e79f45995a"), looks := false }, kinds := [], alts := [], laidByText := true, laidKinds := [.data, .data, .data], laidTests := true, laidLooks := .later }
def EngineStepsUptoCardSaid : Prop := Claim7.holds Tryz.pinned (.plain (OpenSpec.upto engineStepsSpec)) engineStepsUptoCard

/-- THE SECOND FORM's CARD OF 'tronagelaw19.EngineTrees'. -/
def engineTreesUptoCard : Claim7 := { stood := { row := engineTreesUptoRow, standIns := [], harness := (true, "f019892325069f57308cafdd51acc6e2405f678b2e86c0e999b9d1e79f45995a"), looks := false }, kinds := [], alts := [], laidByText := true, laidKinds := [.data, .data, .data], laidTests := true, laidLooks := .later }
def EngineTreesUptoCardSaid : Prop := Claim7.holds Tryz.pinned (.plain (OpenSpec.upto engineTreesSpec)) engineTreesUptoCard
end Rows
end Go.Proofs.YtnlkgidlfnefbaaGreatDoor
