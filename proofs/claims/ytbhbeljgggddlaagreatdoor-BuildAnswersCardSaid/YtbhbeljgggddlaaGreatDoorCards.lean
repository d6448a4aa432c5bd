/-
  DERIVED. GIVEN WITH THE SEED: THE CARDS: each row of YtbhbeljgggddlaaGreatDoorRows.lean that lists a variable, with what it lists TIED to the program's text (the seventh form; the later family's looks); each row that meets fmt, with fmt's text TOLD by the authors' own Lean function (tested against real Go, not proved from fmt's source: count such statements apart). THE CARD IS WHAT COUNTS. Prove the row's statement (the work); the ties are given (YtbhbeljgggddlaaGreatDoorTie.lean); close each card by the builder's one call (the guide's Derived/Test/ToyasCard.lean, 'card_holds'). Laid BY PROGRAM, IN A SANDBOX (cutbox-door.mjs). By AI agents, Wed Nov 11 2026. No macro, syntax, notation, axiom, sorry.
-/
import Derived.Test.YtbhbeljgggddlaaGreatDoorRows
import GoSem.ClaimSeven
namespace Go.Proofs.YtbhbeljgggddlaaGreatDoor
namespace Rows

/-- THE TIED CARD OF 'tronagelaw23.BuildAnswers'. -/
def buildAnswersCard : Claim7 := { stood := { row := buildAnswersRow, standIns := [], harness := (true, "52488e4374bacff4b241de05207f5b7dbd22aca65eea8191cc23a429c510ec2c"), looks := true }, kinds := [], alts := [], laidByText := true, laidKinds := [.data, .data, .data, .data, .widerDeep, .data], laidTests := true, laidLooks := .later }
def BuildAnswersCardSaid : Prop := Claim7.holds Tryz.pinned (.plain (OpenSpec.ofChange buildAnswersSpec)) buildAnswersCard

/-- THE SECOND FORM's CARD OF 'tronagelaw23.BuildAnswers'. -/
def buildAnswersUptoCard : Claim7 := { stood := { row := buildAnswersUptoRow, standIns := [], harness := (true, "52488e4374bacff4b241de05207f5b7dbd22aca65eea8191cc23a429c510ec2c"), looks := true }, kinds := [], alts := [], laidByText := true, laidKinds := [.data, .data, .data, .data, .widerDeep, .data], laidTests := true, laidLooks := .later }
def BuildAnswersUptoCardSaid : Prop := Claim7.holds Tryz.pinned (.plain (OpenSpec.upto buildAnswersSpec)) buildAnswersUptoCard
end Rows
end Go.Proofs.YtbhbeljgggddlaaGreatDoor
