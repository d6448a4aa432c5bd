/-
  S51d, put together.
  Conditions: none; each part tells its own.
-/
import Derived.Test.YteligkemohngiaaGreatDoorKt6
import Derived.KernelRfl
/-
  Sums of 16 to 18 numbers, by the machine.
  Conditions: none.
-/
namespace Go.B
open Go Go.Proofs
set_option maxRecDepth 100000
theorem sums15 : sumsAt 15 = true := by kernel_rfl
theorem sums16 : sumsAt 16 = true := by kernel_rfl
theorem sums17 : sumsAt 17 = true := by kernel_rfl
end Go.B
