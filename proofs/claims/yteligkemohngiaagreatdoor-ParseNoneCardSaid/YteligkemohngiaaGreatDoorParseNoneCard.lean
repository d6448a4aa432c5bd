/-
  The tied card of ParseNone of the given program: whatever the arguments, the call returns true, and the arguments read as before.
  Conditions: none beyond the statement's own (the listed variables read as the program's text lays them: tied).
-/
import Derived.Test.YteligkemohngiaaGreatDoorCards
import Derived.Test.YteligkemohngiaaGreatDoorTie
import Derived.Test.YteligkemohngiaaGreatDoorPnOver
import Derived.LaidMore
import Derived.Lay
import Derived.MakeChecks
import Derived.Stop.LaidErr
import Derived.Stop.Joined
import Derived.SevenTiedAt
import Derived.Lib.LaidTab
namespace Go.Proofs.YteligkemohngiaaGreatDoor.parseNone
open Go.ChangeShapes Go.WideShapes Go.ChangeAt Go.RowKit
open Go.ChangeMaps (open_string shut_string)
open Go Go.Eng
set_option linter.unusedVariables false

theorem wfT : Rows.parseNoneRow.wfByText (OpenSpec.ofChange Rows.parseNoneSpec) = true := by kernel_rfl
theorem mainT : Tryz.prog.mainIs = some (true, "c39c73dd16b50439259ec06e6bc72084cb7e206c6827e52dcb5c4e3396403d67".toList) := by kernel_rfl
theorem looksT : true = Tryz.prog.looks [] := by kernel_rfl
theorem goesT : false = Rows.parseNoneRow.goesBy Tryz.prog := by kernel_rfl
theorem plainT : ([9, 37, 5].all fun u => !Tryz.prog.wantsStandIn u) = true := by kernel_rfl

theorem proved : Rows.ParseNoneCardSaid :=
  Claim7.holds_tied_plain_at .later [] [.data, .data, .data, .data, .data, .widerDeep, .data, .pinned] true (true, "c39c73dd16b50439259ec06e6bc72084cb7e206c6827e52dcb5c4e3396403d67") true
    over (fun _ h => by cases h) wfT (fun _ h => by cases h) parseNone_row_tie rfl ⟨rfl, rfl⟩ mainT rfl
    (fun f fn hf hfn => by
      obtain rfl : f = 4 := Option.some.inj ((show Tryz.prog.funcNamed "tronage/tronagelaw24.ParseNone" = some 4 from named4).symm.trans hf) |>.symm
      obtain rfl : fn = Tryz.f4 := (Option.some.inj (Tryz.func4.symm.trans hfn)).symm
      exact ⟨looksT, fun j t ht => by
        rw [Tryz.params4] at ht
        have hm : t ∈ [9, 37, 5] := by simpa using Array.mem_of_getElem? ht
        exact (show Tryz.prog.wantsStandIn t = false by simpa using List.all_eq_true.1 plainT t hm)⟩)
    goesT
end Go.Proofs.YteligkemohngiaaGreatDoor.parseNone
