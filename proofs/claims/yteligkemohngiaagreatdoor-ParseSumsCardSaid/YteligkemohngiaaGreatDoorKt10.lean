/-
  S51c, put together.
  Conditions: none; each part tells its own.
-/
import Derived.Test.YteligkemohngiaaGreatDoorKt6
import Derived.KernelRfl
/-
  Sums of 13 to 15 numbers, by the machine.
  Conditions: none.
-/
namespace Go.B
open Go Go.Proofs
set_option maxRecDepth 100000
theorem sums12 : sumsAt 12 = true := by kernel_rfl
theorem sums13 : sumsAt 13 = true := by kernel_rfl
theorem sums14 : sumsAt 14 = true := by kernel_rfl
end Go.B
