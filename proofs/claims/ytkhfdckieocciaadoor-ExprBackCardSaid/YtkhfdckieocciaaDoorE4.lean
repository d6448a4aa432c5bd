/-
  EXPR, PLAIN PART 4: the chapter's examples; minuses and brackets about a number.
  Conditions: none.
-/
import Derived.Test.YtkhfdckieocciaaDoorE3
import Derived.KernelRfl
namespace Go.Proofs.YtkhfdckieocciaaDoor
open Go Go.Eng
set_option linter.unusedVariables false
set_option maxRecDepth 100000

theorem awake_ok : tronagelaw20_awake_D 300 = some true := by
  unfold tronagelaw20_awake_D
  simp only [read_ok]
  kernel_rfl

theorem deep_law {x : Int} {w : Bool} (h : 0 ≤ x ∧ x ≤ 255) : tronagelaw20_ExprDeep_D 300 x w = some true := by
  have hk : IntKind.wrap .i64 (Int.tmod x (61 : Int)) = ((x.toNat % 61 : Nat) : Int) := by
    have e : Int.tmod x (61 : Int) = ((x.toNat % 61 : Nat) : Int) := by
      rw [Int.tmod_eq_emod_of_nonneg h.1]
      omega
    rw [e, w64 (by omega) (by omega)]
  unfold tronagelaw20_ExprDeep_D
  simp only [awake_ok, read_ok, hk, Option.bind_some]
  have hlt : x.toNat % 61 < 61 := Nat.mod_lt _ (by decide)
  generalize x.toNat % 61 = k at hlt
  clear hk h x
  revert w
  revert k
  decide +kernel
end Go.Proofs.YtkhfdckieocciaaDoor
