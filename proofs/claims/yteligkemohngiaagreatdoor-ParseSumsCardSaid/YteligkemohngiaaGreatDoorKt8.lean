/-
  S51e, put together.
  Conditions: none; each part tells its own.
-/
import Derived.Test.YteligkemohngiaaGreatDoorKt6
import Derived.KernelRfl
/-
  Sums of 19 to 19 numbers, by the machine.
  Conditions: none.
-/
namespace Go.B
open Go Go.Proofs
set_option maxRecDepth 100000
theorem sums18 : sumsAt 18 = true := by kernel_rfl
end Go.B
