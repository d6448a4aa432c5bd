/-
  S50, put together.
  Conditions: none; each part tells its own.
-/
import Derived.Test.YtbhbeljgggddlaaGreatDoorKa4
import Derived.Test.YtbhbeljgggddlaaGreatDoorProg
import Derived.KernelRfl
/-
  THE ABSTRACT MACHINE AT A SEAT (BuildAnswers): what the kernel says of the program. ls0 is printed by ls0.py into the text YtbhbeljgggddlaaGreatDoorLs0.
  Conditions: the program's variables hold what the row lists.
-/
namespace Go.B
open Go Go.Proofs
set_option maxRecDepth 100000
theorem sz1 : Nat.ble Tryz.prog.types.size 4096 = true := by kernel_rfl
theorem sz2 : Nat.ble Tryz.prog.funcs.size 4096 = true := by kernel_rfl
theorem own1 : Own1 Tryz.prog 248 Extern.BytealgIndexByte.indexByte := ⟨Tryz.prog.funcs.getD 248 default, by kernel_rfl, by kernel_rfl, by kernel_rfl, by kernel_rfl, by kernel_rfl⟩
theorem own2 : Own1 Tryz.prog 206 Extern.BytealgCount.count := ⟨Tryz.prog.funcs.getD 206 default, by kernel_rfl, by kernel_rfl, by kernel_rfl, by kernel_rfl, by kernel_rfl⟩
def isB : Res → Bool
  | .ok (.bool b) _ => b
  | _ => false
theorem isB_ok {r : Res} (h : isB r = true) : ∃ A', r = .ok (.bool true) A' := by
  unfold isB at h
  split at h
  · subst h; exact ⟨_, rfl⟩
  · cases h
theorem said : isB (recN Tryz.prog (tabOf Tryz.prog) (fnTab Tryz.prog (tabOf Tryz.prog)) (primF 248 206) 1000 (.func 4 [] []) [] (glob0 ls0)) = true := by kernel_rfl
theorem awake_said {h : Eng.Heap} (hc : ∀ (g : Nat) l, ls0[g]? = some (some l) → Laid h g l) : Eng.CallsH Tryz.prog 4 [] h fun e h' => e = .ret (.bool true) ∧ ∀ (k : Nat) o, h[k]? = some o → h'[k]? = some o := by
  obtain ⟨A', h0⟩ := isB_ok said
  have hP := Nat.le_of_ble_eq_true sz1
  exact run_calls (rec_ok hP (Nat.le_of_ble_eq_true sz2) (draw_ok hP (by kernel_rfl)) (primF_ok own1 own2) 1000) (by decide) h0 ⟨Tryz.prog.funcs.getD 4 default, by kernel_rfl, by kernel_rfl⟩ hc
end Go.B
