/-
  S51b, put together.
  Conditions: none; each part tells its own.
-/
import Derived.Test.YteligkemohngiaaGreatDoorKt6
import Derived.KernelRfl
/-
  Sums of 9 to 12 numbers, by the machine.
  Conditions: none.
-/
namespace Go.B
open Go Go.Proofs
set_option maxRecDepth 100000
theorem sums8 : sumsAt 8 = true := by kernel_rfl
theorem sums9 : sumsAt 9 = true := by kernel_rfl
theorem sums10 : sumsAt 10 = true := by kernel_rfl
theorem sums11 : sumsAt 11 = true := by kernel_rfl
end Go.B
