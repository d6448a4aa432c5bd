/-
  S51a, put together.
  Conditions: none; each part tells its own.
-/
import Derived.Test.YteligkemohngiaaGreatDoorKt6
import Derived.KernelRfl
/-
  Sums of 1 to 8 numbers, by the machine.
  Conditions: none.
-/
namespace Go.B
open Go Go.Proofs
set_option maxRecDepth 100000
theorem sums0 : sumsAt 0 = true := by kernel_rfl
theorem sums1 : sumsAt 1 = true := by kernel_rfl
theorem sums2 : sumsAt 2 = true := by kernel_rfl
theorem sums3 : sumsAt 3 = true := by kernel_rfl
theorem sums4 : sumsAt 4 = true := by kernel_rfl
theorem sums5 : sumsAt 5 = true := by kernel_rfl
theorem sums6 : sumsAt 6 = true := by kernel_rfl
theorem sums7 : sumsAt 7 = true := by kernel_rfl
end Go.B
