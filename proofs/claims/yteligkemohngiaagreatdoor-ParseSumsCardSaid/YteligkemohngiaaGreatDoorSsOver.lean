/-
  The tied card of ParseSums of the given program: whatever the arguments, the call returns true, and the arguments read as before.
  Conditions: none beyond the statement's own (the listed variables read as the program's text lays them: tied).
-/
import Derived.Test.YteligkemohngiaaGreatDoorCards
import Derived.Test.YteligkemohngiaaGreatDoorTie
import Derived.Test.YteligkemohngiaaGreatDoorSsLift
import Derived.LaidMore
import Derived.Lay
import Derived.MakeChecks
import Derived.Stop.LaidErr
import Derived.Stop.Joined
import Derived.SevenTiedAt
import Derived.Lib.LaidTab
namespace Go.Proofs.YteligkemohngiaaGreatDoor.parseSums
open Go.ChangeShapes Go.WideShapes Go.ChangeAt Go.RowKit
open Go.ChangeMaps (open_string shut_string)
open Go Go.Eng
set_option linter.unusedVariables false

theorem and_mk {a b : Bool} (h : a = true) (k : b = true) : (a && b) = true := by rw [h, k]; rfl
set_option maxHeartbeats 4000000 in
theorem facts : joinedFacts Tryz.checked.prog 3 Tryz.f3 Rows.parseSumsSpec Rows.parseSumsRow = true := by
  unfold joinedFacts
  repeat' (with_reducible apply and_mk)
  all_goals (as_aux_lemma => kernel_rfl)

theorem named3 : Tryz.prog.funcNamed "tronage/tronagelaw24.ParseSums" = some 3 := by kernel_rfl

theorem over : Rows.ParseSumsSaid :=
  OpenClaim.holds_of_wide 3 Tryz.f3 rfl rfl rfl rfl rfl rfl rfl ⟨rfl, rfl, rfl, rfl, rfl⟩ rfl rfl rfl rfl rfl named3 Tryz.func3 facts
    (of_decide_eq_true (by kernel_rfl)) (by unfold Func.isWrapper; first | (rw [if_pos (by decide +kernel)]; kernel_rfl) | (rw [if_neg (by decide +kernel)]; exact ⟨rfl, rfl⟩))
    (fun os started H enc _ => lifted os started H enc)

end Go.Proofs.YteligkemohngiaaGreatDoor.parseSums
