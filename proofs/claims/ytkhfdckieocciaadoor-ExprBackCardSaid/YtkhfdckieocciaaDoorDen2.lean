import Derived.Test.YtkhfdckieocciaaDoorEngJ
import Derived.Test.YtkhfdckieocciaaDoorProg
import Derived.KernelRfl
namespace Go.Proofs.YtkhfdckieocciaaDoor
open Go Go.Eng
set_option linter.unusedVariables false
set_option maxRecDepth 100000

/-- strconv.Itoa -/
def strconv_Itoa_T (i_0 : Int) : T :=
  T.call 40 [(.int .i64 i_0)] (.one (.atom .string)) fun (t1 : ByteArray) =>
  T.ret (.string t1)
theorem strconv_Itoa_den (i_0 : Int) : denFun Tryd.prog Tryd.f33 [(.int .i64 i_0)] = strconv_Itoa_T i_0 := by kernel_rfl

/-- internal/strconv.Itoa -/
def internal_strconv_Itoa_T (i_0 : Int) : T :=
  T.call 48 [(.int .i64 i_0), (.int .i64 (10 : Int))] (.one (.atom .string)) fun (t1 : ByteArray) =>
  T.ret (.string t1)
theorem internal_strconv_Itoa_den (i_0 : Int) : denFun Tryd.prog Tryd.f40 [(.int .i64 i_0)] = internal_strconv_Itoa_T i_0 := by kernel_rfl

end Go.Proofs.YtkhfdckieocciaaDoor
