/-
  MORE LAWS: slices of slices. Conditions: none.
-/
import Derived.Test.YtkhfdckieocciaaDoorEngU
namespace Go.Eng
open Go
theorem CellsAt.cut {h : Heap} {p : Option Addr} {vs : List Value} {c m sz : Nat} (H : CellsAt h p vs) (hc : vs.length ≤ c * sz) : CellsAt h (if c = m then p else Option.map (fun x => Addr.add x (m * sz)) p) (vs.drop (m * sz)) := by
  intro i v hv
  rw [List.getElem?_drop] at hv
  have hlt : m * sz + i < vs.length := by
    rcases Nat.lt_or_ge (m * sz + i) vs.length with g | g
    · exact g
    · rw [List.getElem?_eq_none g] at hv; cases hv
  obtain ⟨a, rfl, ha⟩ := H _ _ hv
  by_cases hcm : c = m
  · subst hcm; omega
  · rw [if_neg hcm]
    exact ⟨a.add (m * sz), rfl, by rw [add_add]; exact ha⟩
theorem CellsAt.take {h : Heap} {p : Option Addr} {vs : List Value} (H : CellsAt h p vs) (m : Nat) : CellsAt h p (vs.take m) := fun i v hv => by
  rw [List.getElem?_take] at hv
  split at hv
  · exact H i v hv
  · cases hv
theorem blk_cut {p : Option Addr} {c m k : Nat} : blk (if c = m then p else Option.map (fun x => Addr.add x k) p) = blk p := by
  split
  · rfl
  · cases p with
    | none => rfl
    | some a => simp [blk, add_block]
end Go.Eng
