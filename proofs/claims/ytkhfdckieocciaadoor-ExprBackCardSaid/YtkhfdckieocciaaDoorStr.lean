/-
  strconv.FormatInt at base 10: the shelf's contract in the words of pieces.
  Conditions: the table of powers reads as its initialiser lays it.
-/
import Derived.Test.YtkhfdckieocciaaDoorLays
import Derived.Test.YtkhfdckieocciaaDoorEngM
namespace Go.Proofs.YtkhfdckieocciaaDoor
open Go Go.Eng Go.RowKit
set_option linter.unusedVariables false

/-- The table of powers stays. -/
def Glob (φ : Snap) : Prop := ∃ g t f, Tryd.prog.globalNamed "internal/strconv.uint64pow10" = some g ∧ φ g = some (.cells (Lib.pow10Tab.map fun z => Value.int .u64 z).toArray t f)
theorem Glob.mono {φ ψ : Snap} (H : Glob φ) (hs : Sub φ ψ) : Glob ψ := by
  obtain ⟨g, t, f, h1, h2⟩ := H
  exact ⟨g, t, f, h1, hs _ _ h2⟩
def fmtD (i b : Int) : Option ByteArray := if b = 10 ∧ -9223372036854775808 ≤ i ∧ i ≤ 9223372036854775807 then some ⟨(Lib.itoa i).toArray⟩ else none
theorem fmt_sim {φ : Snap} {h : Heap} {F : List Chk} {i b : Int} (gk : Glob φ) (s0 : St φ F h) {r : ByteArray} (hd : fmtD i b = some r) :
    CallsH Tryd.prog 48 [(.int .i64 i), (.int .i64 b)] h (Back fun v h' => ∃ ψ : Snap, ∃ y : ByteArray, Sub φ ψ ∧ v = ((.one (.atom .string)) : Sh).val y ∧ y = r ∧ St ψ F h') := by
  unfold fmtD at hd
  split at hd
  · rename_i hg
    obtain ⟨rfl, h1, h2⟩ := hg
    cases hd
    intro w hw
    subst hw
    refine (Any.internal_strconv_FormatInt_10 laysM246 i h1 h2 w ?_).mono ?_
    · obtain ⟨g, t', f, g1, g2⟩ := gk
      have hg : w.heap[g]? = some (.cells (Lib.pow10Tab.map fun z => Value.int .u64 z).toArray t' f) := s0.sub _ _ g2
      show (Tryd.prog.globalNamed _).bind _ = _
      rw [g1]
      show (match w.heap[g]? with | some (.cells cs _ _) => some cs | _ => none) = _
      rw [hg]
    · rintro e w' ⟨rfl, k, os, rfl⟩
      refine ⟨⟨rfl, rfl, rfl⟩, _, rfl, φ, _, Sub.refl _, rfl, rfl, s0.keep fun j o ho => ?_⟩
      have hlt := lt_of_get (h := w.heap) ho
      show (w.heap ++ os)[j]? = some o
      rw [Array.getElem?_append_left hlt]
      exact ho
  · cases hd
end Go.Proofs.YtkhfdckieocciaaDoor
