/-
  TABLE: the laws over heaps: what D tells is true, so the call answers true; the table of powers as the row lists it.
  Conditions: the arguments' cells are there.
-/
import Derived.Test.YtklamaeccniblaaDoorP7
import Derived.Test.YtklamaeccniblaaDoorEngQ
import Derived.Test.YtklamaeccniblaaDoorRows
import Derived.MakeChecks
import Derived.Stop.LaidErr
import Derived.Lib.LaidTab
namespace Go.Proofs.YtklamaeccniblaaDoor
open Go Go.Eng
set_option linter.unusedVariables false

theorem glob_of {W : World} (hL : laidMetH Tryd.prog Rows.tableFitsRow.laid W) : Glob (snap W.heap) := by
  rw [MakeChecks.laidMetH_plain _ _ _ (by kernel_rfl)] at hL
  have h1 : laidMet Tryd.prog (("internal/strconv.uint64pow10", Lib.tabData .u64 Lib.pow10Tab) :: []) W := hL.tail.tail
  have hg : Tryd.prog.globalNamed "internal/strconv.uint64pow10" = some 0 := by kernel_rfl
  have h2 := Lib.tabIs_of_head hg (by kernel_rfl) Tryd.underlying61 Tryd.underlying52 (by kernel_rfl) (by kernel_rfl) h1
  unfold Lib.TabIs World.var? at h2
  rw [hg, Option.bind_some] at h2
  cases hb : W.heap[0]? with
  | none => rw [hb] at h2; cases h2
  | some o =>
    rw [hb] at h2
    cases o with
    | cells cs t f => cases h2; exact ⟨0, t, f, hg, hb⟩
    | _ => cases h2
theorem wf64 {x : Int} (h : (Lit.int .i64 x).wf = true) : -9223372036854775808 ≤ x ∧ x ≤ 9223372036854775807 := by
  simp only [Lit.wf, Bool.and_eq_true, decide_eq_true_eq] at h
  have e1 : IntKind.min .i64 = -9223372036854775808 := rfl
  have e2 : IntKind.max .i64 = 9223372036854775807 := rfl
  omega
theorem wf8 {x : Int} (h : (Lit.int .u8 x).wf = true) : 0 ≤ x ∧ x ≤ 255 := by
  simp only [Lit.wf, Bool.and_eq_true, decide_eq_true_eq] at h
  have e1 : IntKind.min .u8 = 0 := rfl
  have e2 : IntKind.max .u8 = 255 := rfl
  omega
section
variable {h : Heap}
theorem row_in {n : Nat} {p : Option Addr} {len cap : Nat} (hr : Reads Tryd.prog h n 26 [.slice p len cap]) : ∃ l, Ro.SliceIs (Ro.int .i64) (snap h) (p, len, cap) l ∧ R64 l := by
  obtain ⟨l, h1, _, h2⟩ := slice_of (readsTo_slice Tryd.underlying26 (by kernel_rfl) (readsTo_int Tryd.underlying3)) hr
  exact ⟨l, h1, fun x hx => wf64 (h2 x hx)⟩
theorem bytes_in {n : Nat} {p : Option Addr} {len cap : Nat} (hr : Reads Tryd.prog h n 23 [.slice p len cap]) : ∃ l, Ro.SliceIs (Ro.int .u8) (snap h) (p, len, cap) l ∧ U8 l := by
  obtain ⟨l, h1, _, h2⟩ := slice_of (readsTo_slice Tryd.underlying23 (by kernel_rfl) (readsTo_int Tryd.underlying5)) hr
  exact ⟨l, h1, fun x hx => wf8 (h2 x hx)⟩
theorem rows_in {n : Nat} {p : Option Addr} {len cap : Nat} (hr : Reads Tryd.prog h n 22 [.slice p len cap]) : ∃ l, Ro.SliceIs (Ro.list (Ro.int .i64)) (snap h) (p, len, cap) l ∧ All64 l := by
  obtain ⟨l, h1, _, h2⟩ := slice_of (readsTo_slice Tryd.underlying22 (by kernel_rfl) (readsTo_slice Tryd.underlying26 (by kernel_rfl) (readsTo_int Tryd.underlying3))) hr
  exact ⟨l, h1, fun r hx x hx' => wf64 ((h2 r hx).2 x hx')⟩
theorem fits {n : Nat} {p : Option Addr} {len cap : Nat} (gk : Glob (snap h)) (hr : Reads Tryd.prog h n 22 [.slice p len cap]) : CallsH Tryd.prog 4 [.slice p len cap] h (Back (Truth h)) := by
  obtain ⟨l, h1, h2⟩ := rows_in hr
  exact truth_of (tronagelaw15_TableFits_sim gk h1 (St.start h) (fits_law h2))
theorem packs {n : Nat} {p : Option Addr} {len cap : Nat} (gk : Glob (snap h)) (hr : Reads Tryd.prog h n 22 [.slice p len cap]) : CallsH Tryd.prog 6 [.slice p len cap] h (Back (Truth h)) := by
  obtain ⟨l, h1, h2⟩ := rows_in hr
  exact truth_of (tronagelaw15_TablePacks_sim gk h1 (St.start h) (packs_law h2))
theorem apart {n : Nat} {p : Option Addr} {len cap : Nat} (gk : Glob (snap h)) (hr : Reads Tryd.prog h n 22 [.slice p len cap]) : CallsH Tryd.prog 7 [.slice p len cap] h (Back (Truth h)) := by
  obtain ⟨l, h1, h2⟩ := rows_in hr
  exact truth_of (tronagelaw15_TableApart_sim gk h1 (St.start h) (apart_law h2))
theorem goes {n m : Nat} {p q : Option Addr} {len cap len' cap' : Nat} (gk : Glob (snap h)) (hr : Reads Tryd.prog h n 22 [.slice p len cap]) (hm : Reads Tryd.prog h m 26 [.slice q len' cap']) :
    CallsH Tryd.prog 5 [.slice p len cap, .slice q len' cap'] h (Back (Truth h)) := by
  obtain ⟨l, h1, h2⟩ := rows_in hr
  obtain ⟨l', h1', h2'⟩ := row_in hm
  exact truth_of (tronagelaw15_TableGoesOn_sim gk h1 h1' (St.start h) (goes_law h2 h2'))
theorem shares {n m : Nat} {p q : Option Addr} {len cap len' cap' : Nat} (gk : Glob (snap h)) (hr : Reads Tryd.prog h n 22 [.slice p len cap]) (hm : Reads Tryd.prog h m 23 [.slice q len' cap']) :
    CallsH Tryd.prog 3 [.slice p len cap, .slice q len' cap'] h (Back (Truth h)) := by
  obtain ⟨l, h1, h2⟩ := rows_in hr
  obtain ⟨l', h1', h2'⟩ := bytes_in hm
  exact truth_of (tronagelaw15_TableShares_sim gk h1 h1' (St.start h) (shares_law h2 h2'))
end
end Go.Proofs.YtklamaeccniblaaDoor
