/-
  S51f, put together.
  Conditions: none; each part tells its own.
-/
import Derived.Test.YteligkemohngiaaGreatDoorKt6
import Derived.KernelRfl
/-
  Sums of 20 to 20 numbers, by the machine.
  Conditions: none.
-/
namespace Go.B
open Go Go.Proofs
set_option maxRecDepth 100000
theorem sums19 : sumsAt 19 = true := by kernel_rfl
end Go.B
