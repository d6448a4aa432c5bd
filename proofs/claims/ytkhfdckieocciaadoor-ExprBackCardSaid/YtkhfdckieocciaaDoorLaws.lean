/-
  EXPR: the laws over heaps: what D tells is true, so the call answers true; the table of powers as the row lists it.
  Conditions: the arguments' cells are there.
-/
import Derived.Test.YtkhfdckieocciaaDoorE10
import Derived.Test.YtkhfdckieocciaaDoorEngQ
import Derived.Test.YtkhfdckieocciaaDoorRows
import Derived.MakeChecks
import Derived.Stop.LaidErr
import Derived.Lib.LaidTab
namespace Go.Proofs.YtkhfdckieocciaaDoor
open Go Go.Eng
set_option linter.unusedVariables false

theorem glob_of {W : World} (hL : laidMetH Tryd.prog Rows.exprDeepRow.laid W) : Glob (snap W.heap) := by
  rw [MakeChecks.laidMetH_plain _ _ _ (by kernel_rfl)] at hL
  have h1 : laidMet Tryd.prog (("internal/strconv.uint64pow10", Lib.tabData .u64 Lib.pow10Tab) :: []) W := hL.tail.tail
  have hg : Tryd.prog.globalNamed "internal/strconv.uint64pow10" = some 0 := by kernel_rfl
  have h2 := Lib.tabIs_of_head hg (by kernel_rfl) Tryd.underlying70 Tryd.underlying64 (by kernel_rfl) (by kernel_rfl) h1
  unfold Lib.TabIs World.var? at h2
  rw [hg, Option.bind_some] at h2
  cases hb : W.heap[0]? with
  | none => rw [hb] at h2; cases h2
  | some o =>
    rw [hb] at h2
    cases o with
    | cells cs t f => cases h2; exact ⟨0, t, f, hg, hb⟩
    | _ => cases h2
theorem wf64 {x : Int} (h : (Lit.int .i64 x).wf = true) : -9223372036854775808 ≤ x ∧ x ≤ 9223372036854775807 := by
  simp only [Lit.wf, Bool.and_eq_true, decide_eq_true_eq] at h
  have e1 : IntKind.min .i64 = -9223372036854775808 := rfl
  have e2 : IntKind.max .i64 = 9223372036854775807 := rfl
  omega
theorem wf8 {x : Int} (h : (Lit.int .u8 x).wf = true) : 0 ≤ x ∧ x ≤ 255 := by
  simp only [Lit.wf, Bool.and_eq_true, decide_eq_true_eq] at h
  have e1 : IntKind.min .u8 = 0 := rfl
  have e2 : IntKind.max .u8 = 255 := rfl
  omega
section
variable {h : Heap}
theorem deep {x : Int} {w : Bool} (gk : Glob (snap h)) (hx : (Lit.int .u8 x).wf = true) : CallsH Tryd.prog 6 [.int .u8 x, .bool w] h (Back (Truth h)) :=
  truth_of (tronagelaw20_ExprDeep_sim 300 gk (St.start h) (deep_law (wf8 hx)))
theorem reads_ {s : ByteArray} (gk : Glob (snap h)) : CallsH Tryd.prog 3 [.string s] h (Back (Truth h)) :=
  truth_of (tronagelaw20_ExprReads_sim 300 gk (St.start h) (reads_law s))
theorem spaces {s : ByteArray} {n : Int} (gk : Glob (snap h)) (hn : (Lit.int .i64 n).wf = true) : CallsH Tryd.prog 4 [.string s, .int .i64 n] h (Back (Truth h)) :=
  truth_of (tronagelaw20_ExprSpaces_sim 300 gk (St.start h) (spaces_law s n))
end
end Go.Proofs.YtkhfdckieocciaaDoor
