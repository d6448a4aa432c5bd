/-
  The tied card of ParseSums of the given program: whatever the arguments, the call returns true, and the arguments read as before.
  Conditions: none beyond the statement's own (the listed variables read as the program's text lays them: tied).
-/
import Derived.Test.YteligkemohngiaaGreatDoorCards
import Derived.Test.YteligkemohngiaaGreatDoorTie
import Derived.Test.YteligkemohngiaaGreatDoorSsOver
import Derived.LaidMore
import Derived.Lay
import Derived.MakeChecks
import Derived.Stop.LaidErr
import Derived.Stop.Joined
import Derived.SevenTiedAt
import Derived.Lib.LaidTab
namespace Go.Proofs.YteligkemohngiaaGreatDoor.parseSums
open Go.ChangeShapes Go.WideShapes Go.ChangeAt Go.RowKit
open Go.ChangeMaps (open_string shut_string)
open Go Go.Eng
set_option linter.unusedVariables false

theorem wfT : Rows.parseSumsRow.wfByText (OpenSpec.ofChange Rows.parseSumsSpec) = true := by kernel_rfl
theorem mainT : Tryz.prog.mainIs = some (true, "c39c73dd16b50439259ec06e6bc72084cb7e206c6827e52dcb5c4e3396403d67".toList) := by kernel_rfl
theorem looksT : true = Tryz.prog.looks [] := by kernel_rfl
theorem goesT : false = Rows.parseSumsRow.goesBy Tryz.prog := by kernel_rfl
theorem plainT : ([22].all fun u => !Tryz.prog.wantsStandIn u) = true := by kernel_rfl

theorem proved : Rows.ParseSumsCardSaid :=
  Claim7.holds_tied_plain_at .later [] [.data, .data, .data, .data, .data, .widerDeep, .data, .pinned] true (true, "c39c73dd16b50439259ec06e6bc72084cb7e206c6827e52dcb5c4e3396403d67") true
    over (fun _ h => by cases h) wfT (fun _ h => by cases h) parseSums_row_tie rfl ⟨rfl, rfl⟩ mainT rfl
    (fun f fn hf hfn => by
      obtain rfl : f = 3 := Option.some.inj ((show Tryz.prog.funcNamed "tronage/tronagelaw24.ParseSums" = some 3 from named3).symm.trans hf) |>.symm
      obtain rfl : fn = Tryz.f3 := (Option.some.inj (Tryz.func3.symm.trans hfn)).symm
      exact ⟨looksT, fun j t ht => by
        rw [Tryz.params3] at ht
        have hm : t ∈ [22] := by simpa using Array.mem_of_getElem? ht
        exact (show Tryz.prog.wantsStandIn t = false by simpa using List.all_eq_true.1 plainT t hm)⟩)
    goesT
end Go.Proofs.YteligkemohngiaaGreatDoor.parseSums
